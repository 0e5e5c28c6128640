/- The program's tables for the machine, the calls that it takes as known, and that a check of the configuration is what the machine says. Conditions: those of each lemma, none else. -/
import Derived.Test.YtdgjcjhicbgfaaaGreatProg
import Derived.Test.YtdgjcjhicbgfaaaGreatMd
import Derived.Test.YtdgjcjhicbgfaaaGreatMe
set_option linter.unusedVariables false
set_option linter.unusedSimpArgs false

/- The program's tables of types and of functions, as trees. Conditions: none. -/
section
set_option maxRecDepth 100000
namespace Go.Proofs.YtdgjcjhicbgfaaaGreat
open Go.RowKit
noncomputable def tabT : Tr TypeInfo := (@Tr.node TypeInfo (@some TypeInfo Tryz.t0) (@Tr.node TypeInfo (@some TypeInfo Tryz.t1) (@Tr.node TypeInfo (@some TypeInfo Tryz.t3) (@Tr.node TypeInfo (@some TypeInfo Tryz.t7) 
  (@Tr.node TypeInfo (@some TypeInfo Tryz.t15) (@Tr.node TypeInfo (@some TypeInfo Tryz.t31) (@Tr.node TypeInfo (@some TypeInfo Tryz.t63) (@Tr.node TypeInfo (@some TypeInfo Tryz.t127) 
  (@Tr.node TypeInfo (@some TypeInfo Tryz.t255) (@Tr.nil TypeInfo) (@Tr.nil TypeInfo)) (@Tr.node TypeInfo (@some TypeInfo Tryz.t383) (@Tr.nil TypeInfo) (@Tr.nil TypeInfo))) (@Tr.node 
  TypeInfo (@some TypeInfo Tryz.t191) (@Tr.node TypeInfo (@some TypeInfo Tryz.t319) (@Tr.nil TypeInfo) (@Tr.nil TypeInfo)) (@Tr.nil TypeInfo))) (@Tr.node TypeInfo (@some TypeInfo 
  Tryz.t95) (@Tr.node TypeInfo (@some TypeInfo Tryz.t159) (@Tr.node TypeInfo (@some TypeInfo Tryz.t287) (@Tr.nil TypeInfo) (@Tr.nil TypeInfo)) (@Tr.node TypeInfo (@some TypeInfo 
  Tryz.t415) (@Tr.nil TypeInfo) (@Tr.nil TypeInfo))) (@Tr.node TypeInfo (@some TypeInfo Tryz.t223) (@Tr.node TypeInfo (@some TypeInfo Tryz.t351) (@Tr.nil TypeInfo) (@Tr.nil 
  TypeInfo)) (@Tr.nil TypeInfo)))) (@Tr.node TypeInfo (@some TypeInfo Tryz.t47) (@Tr.node TypeInfo (@some TypeInfo Tryz.t79) (@Tr.node TypeInfo (@some TypeInfo Tryz.t143) (@Tr.node 
  TypeInfo (@some TypeInfo Tryz.t271) (@Tr.nil TypeInfo) (@Tr.nil TypeInfo)) (@Tr.node TypeInfo (@some TypeInfo Tryz.t399) (@Tr.nil TypeInfo) (@Tr.nil TypeInfo))) (@Tr.node TypeInfo 
  (@some TypeInfo Tryz.t207) (@Tr.node TypeInfo (@some TypeInfo Tryz.t335) (@Tr.nil TypeInfo) (@Tr.nil TypeInfo)) (@Tr.nil TypeInfo))) (@Tr.node TypeInfo (@some TypeInfo Tryz.t111) 
  (@Tr.node TypeInfo (@some TypeInfo Tryz.t175) (@Tr.node TypeInfo (@some TypeInfo Tryz.t303) (@Tr.nil TypeInfo) (@Tr.nil TypeInfo)) (@Tr.node TypeInfo (@some TypeInfo Tryz.t431) 
  (@Tr.nil TypeInfo) (@Tr.nil TypeInfo))) (@Tr.node TypeInfo (@some TypeInfo Tryz.t239) (@Tr.node TypeInfo (@some TypeInfo Tryz.t367) (@Tr.nil TypeInfo) (@Tr.nil TypeInfo)) (@Tr.nil 
  TypeInfo))))) (@Tr.node TypeInfo (@some TypeInfo Tryz.t23) (@Tr.node TypeInfo (@some TypeInfo Tryz.t39) (@Tr.node TypeInfo (@some TypeInfo Tryz.t71) (@Tr.node TypeInfo (@some 
  TypeInfo Tryz.t135) (@Tr.node TypeInfo (@some TypeInfo Tryz.t263) (@Tr.nil TypeInfo) (@Tr.nil TypeInfo)) (@Tr.node TypeInfo (@some TypeInfo Tryz.t391) (@Tr.nil TypeInfo) (@Tr.nil 
  TypeInfo))) (@Tr.node TypeInfo (@some TypeInfo Tryz.t199) (@Tr.node TypeInfo (@some TypeInfo Tryz.t327) (@Tr.nil TypeInfo) (@Tr.nil TypeInfo)) (@Tr.nil TypeInfo))) (@Tr.node 
  TypeInfo (@some TypeInfo Tryz.t103) (@Tr.node TypeInfo (@some TypeInfo Tryz.t167) (@Tr.node TypeInfo (@some TypeInfo Tryz.t295) (@Tr.nil TypeInfo) (@Tr.nil TypeInfo)) (@Tr.node 
  TypeInfo (@some TypeInfo Tryz.t423) (@Tr.nil TypeInfo) (@Tr.nil TypeInfo))) (@Tr.node TypeInfo (@some TypeInfo Tryz.t231) (@Tr.node TypeInfo (@some TypeInfo Tryz.t359) (@Tr.nil 
  TypeInfo) (@Tr.nil TypeInfo)) (@Tr.nil TypeInfo)))) (@Tr.node TypeInfo (@some TypeInfo Tryz.t55) (@Tr.node TypeInfo (@some TypeInfo Tryz.t87) (@Tr.node TypeInfo (@some TypeInfo 
  Tryz.t151) (@Tr.node TypeInfo (@some TypeInfo Tryz.t279) (@Tr.nil TypeInfo) (@Tr.nil TypeInfo)) (@Tr.node TypeInfo (@some TypeInfo Tryz.t407) (@Tr.nil TypeInfo) (@Tr.nil 
  TypeInfo))) (@Tr.node TypeInfo (@some TypeInfo Tryz.t215) (@Tr.node TypeInfo (@some TypeInfo Tryz.t343) (@Tr.nil TypeInfo) (@Tr.nil TypeInfo)) (@Tr.nil TypeInfo))) (@Tr.node 
  TypeInfo (@some TypeInfo Tryz.t119) (@Tr.node TypeInfo (@some TypeInfo Tryz.t183) (@Tr.node TypeInfo (@some TypeInfo Tryz.t311) (@Tr.nil TypeInfo) (@Tr.nil TypeInfo)) (@Tr.nil 
  TypeInfo)) (@Tr.node TypeInfo (@some TypeInfo Tryz.t247) (@Tr.node TypeInfo (@some TypeInfo Tryz.t375) (@Tr.nil TypeInfo) (@Tr.nil TypeInfo)) (@Tr.nil TypeInfo)))))) (@Tr.node 
  TypeInfo (@some TypeInfo Tryz.t11) (@Tr.node TypeInfo (@some TypeInfo Tryz.t19) (@Tr.node TypeInfo (@some TypeInfo Tryz.t35) (@Tr.node TypeInfo (@some TypeInfo Tryz.t67) (@Tr.node 
  TypeInfo (@some TypeInfo Tryz.t131) (@Tr.node TypeInfo (@some TypeInfo Tryz.t259) (@Tr.nil TypeInfo) (@Tr.nil TypeInfo)) (@Tr.node TypeInfo (@some TypeInfo Tryz.t387) (@Tr.nil 
  TypeInfo) (@Tr.nil TypeInfo))) (@Tr.node TypeInfo (@some TypeInfo Tryz.t195) (@Tr.node TypeInfo (@some TypeInfo Tryz.t323) (@Tr.nil TypeInfo) (@Tr.nil TypeInfo)) (@Tr.nil 
  TypeInfo))) (@Tr.node TypeInfo (@some TypeInfo Tryz.t99) (@Tr.node TypeInfo (@some TypeInfo Tryz.t163) (@Tr.node TypeInfo (@some TypeInfo Tryz.t291) (@Tr.nil TypeInfo) (@Tr.nil 
  TypeInfo)) (@Tr.node TypeInfo (@some TypeInfo Tryz.t419) (@Tr.nil TypeInfo) (@Tr.nil TypeInfo))) (@Tr.node TypeInfo (@some TypeInfo Tryz.t227) (@Tr.node TypeInfo (@some TypeInfo 
  Tryz.t355) (@Tr.nil TypeInfo) (@Tr.nil TypeInfo)) (@Tr.nil TypeInfo)))) (@Tr.node TypeInfo (@some TypeInfo Tryz.t51) (@Tr.node TypeInfo (@some TypeInfo Tryz.t83) (@Tr.node TypeInfo 
  (@some TypeInfo Tryz.t147) (@Tr.node TypeInfo (@some TypeInfo Tryz.t275) (@Tr.nil TypeInfo) (@Tr.nil TypeInfo)) (@Tr.node TypeInfo (@some TypeInfo Tryz.t403) (@Tr.nil TypeInfo) 
  (@Tr.nil TypeInfo))) (@Tr.node TypeInfo (@some TypeInfo Tryz.t211) (@Tr.node TypeInfo (@some TypeInfo Tryz.t339) (@Tr.nil TypeInfo) (@Tr.nil TypeInfo)) (@Tr.nil TypeInfo))) 
  (@Tr.node TypeInfo (@some TypeInfo Tryz.t115) (@Tr.node TypeInfo (@some TypeInfo Tryz.t179) (@Tr.node TypeInfo (@some TypeInfo Tryz.t307) (@Tr.nil TypeInfo) (@Tr.nil TypeInfo)) 
  (@Tr.node TypeInfo (@some TypeInfo Tryz.t435) (@Tr.nil TypeInfo) (@Tr.nil TypeInfo))) (@Tr.node TypeInfo (@some TypeInfo Tryz.t243) (@Tr.node TypeInfo (@some TypeInfo Tryz.t371) 
  (@Tr.nil TypeInfo) (@Tr.nil TypeInfo)) (@Tr.nil TypeInfo))))) (@Tr.node TypeInfo (@some TypeInfo Tryz.t27) (@Tr.node TypeInfo (@some TypeInfo Tryz.t43) (@Tr.node TypeInfo (@some 
  TypeInfo Tryz.t75) (@Tr.node TypeInfo (@some TypeInfo Tryz.t139) (@Tr.node TypeInfo (@some TypeInfo Tryz.t267) (@Tr.nil TypeInfo) (@Tr.nil TypeInfo)) (@Tr.node TypeInfo (@some 
  TypeInfo Tryz.t395) (@Tr.nil TypeInfo) (@Tr.nil TypeInfo))) (@Tr.node TypeInfo (@some TypeInfo Tryz.t203) (@Tr.node TypeInfo (@some TypeInfo Tryz.t331) (@Tr.nil TypeInfo) (@Tr.nil 
  TypeInfo)) (@Tr.nil TypeInfo))) (@Tr.node TypeInfo (@some TypeInfo Tryz.t107) (@Tr.node TypeInfo (@some TypeInfo Tryz.t171) (@Tr.node TypeInfo (@some TypeInfo Tryz.t299) (@Tr.nil 
  TypeInfo) (@Tr.nil TypeInfo)) (@Tr.node TypeInfo (@some TypeInfo Tryz.t427) (@Tr.nil TypeInfo) (@Tr.nil TypeInfo))) (@Tr.node TypeInfo (@some TypeInfo Tryz.t235) (@Tr.node TypeInfo 
  (@some TypeInfo Tryz.t363) (@Tr.nil TypeInfo) (@Tr.nil TypeInfo)) (@Tr.nil TypeInfo)))) (@Tr.node TypeInfo (@some TypeInfo Tryz.t59) (@Tr.node TypeInfo (@some TypeInfo Tryz.t91) 
  (@Tr.node TypeInfo (@some TypeInfo Tryz.t155) (@Tr.node TypeInfo (@some TypeInfo Tryz.t283) (@Tr.nil TypeInfo) (@Tr.nil TypeInfo)) (@Tr.node TypeInfo (@some TypeInfo Tryz.t411) 
  (@Tr.nil TypeInfo) (@Tr.nil TypeInfo))) (@Tr.node TypeInfo (@some TypeInfo Tryz.t219) (@Tr.node TypeInfo (@some TypeInfo Tryz.t347) (@Tr.nil TypeInfo) (@Tr.nil TypeInfo)) (@Tr.nil 
  TypeInfo))) (@Tr.node TypeInfo (@some TypeInfo Tryz.t123) (@Tr.node TypeInfo (@some TypeInfo Tryz.t187) (@Tr.node TypeInfo (@some TypeInfo Tryz.t315) (@Tr.nil TypeInfo) (@Tr.nil 
  TypeInfo)) (@Tr.nil TypeInfo)) (@Tr.node TypeInfo (@some TypeInfo Tryz.t251) (@Tr.node TypeInfo (@some TypeInfo Tryz.t379) (@Tr.nil TypeInfo) (@Tr.nil TypeInfo)) (@Tr.nil 
  TypeInfo))))))) (@Tr.node TypeInfo (@some TypeInfo Tryz.t5) (@Tr.node TypeInfo (@some TypeInfo Tryz.t9) (@Tr.node TypeInfo (@some TypeInfo Tryz.t17) (@Tr.node TypeInfo (@some 
  TypeInfo Tryz.t33) (@Tr.node TypeInfo (@some TypeInfo Tryz.t65) (@Tr.node TypeInfo (@some TypeInfo Tryz.t129) (@Tr.node TypeInfo (@some TypeInfo Tryz.t257) (@Tr.nil TypeInfo) 
  (@Tr.nil TypeInfo)) (@Tr.node TypeInfo (@some TypeInfo Tryz.t385) (@Tr.nil TypeInfo) (@Tr.nil TypeInfo))) (@Tr.node TypeInfo (@some TypeInfo Tryz.t193) (@Tr.node TypeInfo (@some 
  TypeInfo Tryz.t321) (@Tr.nil TypeInfo) (@Tr.nil TypeInfo)) (@Tr.nil TypeInfo))) (@Tr.node TypeInfo (@some TypeInfo Tryz.t97) (@Tr.node TypeInfo (@some TypeInfo Tryz.t161) (@Tr.node 
  TypeInfo (@some TypeInfo Tryz.t289) (@Tr.nil TypeInfo) (@Tr.nil TypeInfo)) (@Tr.node TypeInfo (@some TypeInfo Tryz.t417) (@Tr.nil TypeInfo) (@Tr.nil TypeInfo))) (@Tr.node TypeInfo 
  (@some TypeInfo Tryz.t225) (@Tr.node TypeInfo (@some TypeInfo Tryz.t353) (@Tr.nil TypeInfo) (@Tr.nil TypeInfo)) (@Tr.nil TypeInfo)))) (@Tr.node TypeInfo (@some TypeInfo Tryz.t49) 
  (@Tr.node TypeInfo (@some TypeInfo Tryz.t81) (@Tr.node TypeInfo (@some TypeInfo Tryz.t145) (@Tr.node TypeInfo (@some TypeInfo Tryz.t273) (@Tr.nil TypeInfo) (@Tr.nil TypeInfo)) 
  (@Tr.node TypeInfo (@some TypeInfo Tryz.t401) (@Tr.nil TypeInfo) (@Tr.nil TypeInfo))) (@Tr.node TypeInfo (@some TypeInfo Tryz.t209) (@Tr.node TypeInfo (@some TypeInfo Tryz.t337) 
  (@Tr.nil TypeInfo) (@Tr.nil TypeInfo)) (@Tr.nil TypeInfo))) (@Tr.node TypeInfo (@some TypeInfo Tryz.t113) (@Tr.node TypeInfo (@some TypeInfo Tryz.t177) (@Tr.node TypeInfo (@some 
  TypeInfo Tryz.t305) (@Tr.nil TypeInfo) (@Tr.nil TypeInfo)) (@Tr.node TypeInfo (@some TypeInfo Tryz.t433) (@Tr.nil TypeInfo) (@Tr.nil TypeInfo))) (@Tr.node TypeInfo (@some TypeInfo 
  Tryz.t241) (@Tr.node TypeInfo (@some TypeInfo Tryz.t369) (@Tr.nil TypeInfo) (@Tr.nil TypeInfo)) (@Tr.nil TypeInfo))))) (@Tr.node TypeInfo (@some TypeInfo Tryz.t25) (@Tr.node 
  TypeInfo (@some TypeInfo Tryz.t41) (@Tr.node TypeInfo (@some TypeInfo Tryz.t73) (@Tr.node TypeInfo (@some TypeInfo Tryz.t137) (@Tr.node TypeInfo (@some TypeInfo Tryz.t265) (@Tr.nil 
  TypeInfo) (@Tr.nil TypeInfo)) (@Tr.node TypeInfo (@some TypeInfo Tryz.t393) (@Tr.nil TypeInfo) (@Tr.nil TypeInfo))) (@Tr.node TypeInfo (@some TypeInfo Tryz.t201) (@Tr.node TypeInfo 
  (@some TypeInfo Tryz.t329) (@Tr.nil TypeInfo) (@Tr.nil TypeInfo)) (@Tr.nil TypeInfo))) (@Tr.node TypeInfo (@some TypeInfo Tryz.t105) (@Tr.node TypeInfo (@some TypeInfo Tryz.t169) 
  (@Tr.node TypeInfo (@some TypeInfo Tryz.t297) (@Tr.nil TypeInfo) (@Tr.nil TypeInfo)) (@Tr.node TypeInfo (@some TypeInfo Tryz.t425) (@Tr.nil TypeInfo) (@Tr.nil TypeInfo))) (@Tr.node 
  TypeInfo (@some TypeInfo Tryz.t233) (@Tr.node TypeInfo (@some TypeInfo Tryz.t361) (@Tr.nil TypeInfo) (@Tr.nil TypeInfo)) (@Tr.nil TypeInfo)))) (@Tr.node TypeInfo (@some TypeInfo 
  Tryz.t57) (@Tr.node TypeInfo (@some TypeInfo Tryz.t89) (@Tr.node TypeInfo (@some TypeInfo Tryz.t153) (@Tr.node TypeInfo (@some TypeInfo Tryz.t281) (@Tr.nil TypeInfo) (@Tr.nil 
  TypeInfo)) (@Tr.node TypeInfo (@some TypeInfo Tryz.t409) (@Tr.nil TypeInfo) (@Tr.nil TypeInfo))) (@Tr.node TypeInfo (@some TypeInfo Tryz.t217) (@Tr.node TypeInfo (@some TypeInfo 
  Tryz.t345) (@Tr.nil TypeInfo) (@Tr.nil TypeInfo)) (@Tr.nil TypeInfo))) (@Tr.node TypeInfo (@some TypeInfo Tryz.t121) (@Tr.node TypeInfo (@some TypeInfo Tryz.t185) (@Tr.node 
  TypeInfo (@some TypeInfo Tryz.t313) (@Tr.nil TypeInfo) (@Tr.nil TypeInfo)) (@Tr.nil TypeInfo)) (@Tr.node TypeInfo (@some TypeInfo Tryz.t249) (@Tr.node TypeInfo (@some TypeInfo 
  Tryz.t377) (@Tr.nil TypeInfo) (@Tr.nil TypeInfo)) (@Tr.nil TypeInfo)))))) (@Tr.node TypeInfo (@some TypeInfo Tryz.t13) (@Tr.node TypeInfo (@some TypeInfo Tryz.t21) (@Tr.node 
  TypeInfo (@some TypeInfo Tryz.t37) (@Tr.node TypeInfo (@some TypeInfo Tryz.t69) (@Tr.node TypeInfo (@some TypeInfo Tryz.t133) (@Tr.node TypeInfo (@some TypeInfo Tryz.t261) (@Tr.nil 
  TypeInfo) (@Tr.nil TypeInfo)) (@Tr.node TypeInfo (@some TypeInfo Tryz.t389) (@Tr.nil TypeInfo) (@Tr.nil TypeInfo))) (@Tr.node TypeInfo (@some TypeInfo Tryz.t197) (@Tr.node TypeInfo 
  (@some TypeInfo Tryz.t325) (@Tr.nil TypeInfo) (@Tr.nil TypeInfo)) (@Tr.nil TypeInfo))) (@Tr.node TypeInfo (@some TypeInfo Tryz.t101) (@Tr.node TypeInfo (@some TypeInfo Tryz.t165) 
  (@Tr.node TypeInfo (@some TypeInfo Tryz.t293) (@Tr.nil TypeInfo) (@Tr.nil TypeInfo)) (@Tr.node TypeInfo (@some TypeInfo Tryz.t421) (@Tr.nil TypeInfo) (@Tr.nil TypeInfo))) (@Tr.node 
  TypeInfo (@some TypeInfo Tryz.t229) (@Tr.node TypeInfo (@some TypeInfo Tryz.t357) (@Tr.nil TypeInfo) (@Tr.nil TypeInfo)) (@Tr.nil TypeInfo)))) (@Tr.node TypeInfo (@some TypeInfo 
  Tryz.t53) (@Tr.node TypeInfo (@some TypeInfo Tryz.t85) (@Tr.node TypeInfo (@some TypeInfo Tryz.t149) (@Tr.node TypeInfo (@some TypeInfo Tryz.t277) (@Tr.nil TypeInfo) (@Tr.nil 
  TypeInfo)) (@Tr.node TypeInfo (@some TypeInfo Tryz.t405) (@Tr.nil TypeInfo) (@Tr.nil TypeInfo))) (@Tr.node TypeInfo (@some TypeInfo Tryz.t213) (@Tr.node TypeInfo (@some TypeInfo 
  Tryz.t341) (@Tr.nil TypeInfo) (@Tr.nil TypeInfo)) (@Tr.nil TypeInfo))) (@Tr.node TypeInfo (@some TypeInfo Tryz.t117) (@Tr.node TypeInfo (@some TypeInfo Tryz.t181) (@Tr.node 
  TypeInfo (@some TypeInfo Tryz.t309) (@Tr.nil TypeInfo) (@Tr.nil TypeInfo)) (@Tr.node TypeInfo (@some TypeInfo Tryz.t437) (@Tr.nil TypeInfo) (@Tr.nil TypeInfo))) (@Tr.node TypeInfo 
  (@some TypeInfo Tryz.t245) (@Tr.node TypeInfo (@some TypeInfo Tryz.t373) (@Tr.nil TypeInfo) (@Tr.nil TypeInfo)) (@Tr.nil TypeInfo))))) (@Tr.node TypeInfo (@some TypeInfo Tryz.t29) 
  (@Tr.node TypeInfo (@some TypeInfo Tryz.t45) (@Tr.node TypeInfo (@some TypeInfo Tryz.t77) (@Tr.node TypeInfo (@some TypeInfo Tryz.t141) (@Tr.node TypeInfo (@some TypeInfo 
  Tryz.t269) (@Tr.nil TypeInfo) (@Tr.nil TypeInfo)) (@Tr.node TypeInfo (@some TypeInfo Tryz.t397) (@Tr.nil TypeInfo) (@Tr.nil TypeInfo))) (@Tr.node TypeInfo (@some TypeInfo 
  Tryz.t205) (@Tr.node TypeInfo (@some TypeInfo Tryz.t333) (@Tr.nil TypeInfo) (@Tr.nil TypeInfo)) (@Tr.nil TypeInfo))) (@Tr.node TypeInfo (@some TypeInfo Tryz.t109) (@Tr.node 
  TypeInfo (@some TypeInfo Tryz.t173) (@Tr.node TypeInfo (@some TypeInfo Tryz.t301) (@Tr.nil TypeInfo) (@Tr.nil TypeInfo)) (@Tr.node TypeInfo (@some TypeInfo Tryz.t429) (@Tr.nil 
  TypeInfo) (@Tr.nil TypeInfo))) (@Tr.node TypeInfo (@some TypeInfo Tryz.t237) (@Tr.node TypeInfo (@some TypeInfo Tryz.t365) (@Tr.nil TypeInfo) (@Tr.nil TypeInfo)) (@Tr.nil 
  TypeInfo)))) (@Tr.node TypeInfo (@some TypeInfo Tryz.t61) (@Tr.node TypeInfo (@some TypeInfo Tryz.t93) (@Tr.node TypeInfo (@some TypeInfo Tryz.t157) (@Tr.node TypeInfo (@some 
  TypeInfo Tryz.t285) (@Tr.nil TypeInfo) (@Tr.nil TypeInfo)) (@Tr.node TypeInfo (@some TypeInfo Tryz.t413) (@Tr.nil TypeInfo) (@Tr.nil TypeInfo))) (@Tr.node TypeInfo (@some TypeInfo 
  Tryz.t221) (@Tr.node TypeInfo (@some TypeInfo Tryz.t349) (@Tr.nil TypeInfo) (@Tr.nil TypeInfo)) (@Tr.nil TypeInfo))) (@Tr.node TypeInfo (@some TypeInfo Tryz.t125) (@Tr.node 
  TypeInfo (@some TypeInfo Tryz.t189) (@Tr.node TypeInfo (@some TypeInfo Tryz.t317) (@Tr.nil TypeInfo) (@Tr.nil TypeInfo)) (@Tr.nil TypeInfo)) (@Tr.node TypeInfo (@some TypeInfo 
  Tryz.t253) (@Tr.node TypeInfo (@some TypeInfo Tryz.t381) (@Tr.nil TypeInfo) (@Tr.nil TypeInfo)) (@Tr.nil TypeInfo)))))))) (@Tr.node TypeInfo (@some TypeInfo Tryz.t2) (@Tr.node 
  TypeInfo (@some TypeInfo Tryz.t4) (@Tr.node TypeInfo (@some TypeInfo Tryz.t8) (@Tr.node TypeInfo (@some TypeInfo Tryz.t16) (@Tr.node TypeInfo (@some TypeInfo Tryz.t32) (@Tr.node 
  TypeInfo (@some TypeInfo Tryz.t64) (@Tr.node TypeInfo (@some TypeInfo Tryz.t128) (@Tr.node TypeInfo (@some TypeInfo Tryz.t256) (@Tr.nil TypeInfo) (@Tr.nil TypeInfo)) (@Tr.node 
  TypeInfo (@some TypeInfo Tryz.t384) (@Tr.nil TypeInfo) (@Tr.nil TypeInfo))) (@Tr.node TypeInfo (@some TypeInfo Tryz.t192) (@Tr.node TypeInfo (@some TypeInfo Tryz.t320) (@Tr.nil 
  TypeInfo) (@Tr.nil TypeInfo)) (@Tr.nil TypeInfo))) (@Tr.node TypeInfo (@some TypeInfo Tryz.t96) (@Tr.node TypeInfo (@some TypeInfo Tryz.t160) (@Tr.node TypeInfo (@some TypeInfo 
  Tryz.t288) (@Tr.nil TypeInfo) (@Tr.nil TypeInfo)) (@Tr.node TypeInfo (@some TypeInfo Tryz.t416) (@Tr.nil TypeInfo) (@Tr.nil TypeInfo))) (@Tr.node TypeInfo (@some TypeInfo 
  Tryz.t224) (@Tr.node TypeInfo (@some TypeInfo Tryz.t352) (@Tr.nil TypeInfo) (@Tr.nil TypeInfo)) (@Tr.nil TypeInfo)))) (@Tr.node TypeInfo (@some TypeInfo Tryz.t48) (@Tr.node 
  TypeInfo (@some TypeInfo Tryz.t80) (@Tr.node TypeInfo (@some TypeInfo Tryz.t144) (@Tr.node TypeInfo (@some TypeInfo Tryz.t272) (@Tr.nil TypeInfo) (@Tr.nil TypeInfo)) (@Tr.node 
  TypeInfo (@some TypeInfo Tryz.t400) (@Tr.nil TypeInfo) (@Tr.nil TypeInfo))) (@Tr.node TypeInfo (@some TypeInfo Tryz.t208) (@Tr.node TypeInfo (@some TypeInfo Tryz.t336) (@Tr.nil 
  TypeInfo) (@Tr.nil TypeInfo)) (@Tr.nil TypeInfo))) (@Tr.node TypeInfo (@some TypeInfo Tryz.t112) (@Tr.node TypeInfo (@some TypeInfo Tryz.t176) (@Tr.node TypeInfo (@some TypeInfo 
  Tryz.t304) (@Tr.nil TypeInfo) (@Tr.nil TypeInfo)) (@Tr.node TypeInfo (@some TypeInfo Tryz.t432) (@Tr.nil TypeInfo) (@Tr.nil TypeInfo))) (@Tr.node TypeInfo (@some TypeInfo 
  Tryz.t240) (@Tr.node TypeInfo (@some TypeInfo Tryz.t368) (@Tr.nil TypeInfo) (@Tr.nil TypeInfo)) (@Tr.nil TypeInfo))))) (@Tr.node TypeInfo (@some TypeInfo Tryz.t24) (@Tr.node 
  TypeInfo (@some TypeInfo Tryz.t40) (@Tr.node TypeInfo (@some TypeInfo Tryz.t72) (@Tr.node TypeInfo (@some TypeInfo Tryz.t136) (@Tr.node TypeInfo (@some TypeInfo Tryz.t264) (@Tr.nil 
  TypeInfo) (@Tr.nil TypeInfo)) (@Tr.node TypeInfo (@some TypeInfo Tryz.t392) (@Tr.nil TypeInfo) (@Tr.nil TypeInfo))) (@Tr.node TypeInfo (@some TypeInfo Tryz.t200) (@Tr.node TypeInfo 
  (@some TypeInfo Tryz.t328) (@Tr.nil TypeInfo) (@Tr.nil TypeInfo)) (@Tr.nil TypeInfo))) (@Tr.node TypeInfo (@some TypeInfo Tryz.t104) (@Tr.node TypeInfo (@some TypeInfo Tryz.t168) 
  (@Tr.node TypeInfo (@some TypeInfo Tryz.t296) (@Tr.nil TypeInfo) (@Tr.nil TypeInfo)) (@Tr.node TypeInfo (@some TypeInfo Tryz.t424) (@Tr.nil TypeInfo) (@Tr.nil TypeInfo))) (@Tr.node 
  TypeInfo (@some TypeInfo Tryz.t232) (@Tr.node TypeInfo (@some TypeInfo Tryz.t360) (@Tr.nil TypeInfo) (@Tr.nil TypeInfo)) (@Tr.nil TypeInfo)))) (@Tr.node TypeInfo (@some TypeInfo 
  Tryz.t56) (@Tr.node TypeInfo (@some TypeInfo Tryz.t88) (@Tr.node TypeInfo (@some TypeInfo Tryz.t152) (@Tr.node TypeInfo (@some TypeInfo Tryz.t280) (@Tr.nil TypeInfo) (@Tr.nil 
  TypeInfo)) (@Tr.node TypeInfo (@some TypeInfo Tryz.t408) (@Tr.nil TypeInfo) (@Tr.nil TypeInfo))) (@Tr.node TypeInfo (@some TypeInfo Tryz.t216) (@Tr.node TypeInfo (@some TypeInfo 
  Tryz.t344) (@Tr.nil TypeInfo) (@Tr.nil TypeInfo)) (@Tr.nil TypeInfo))) (@Tr.node TypeInfo (@some TypeInfo Tryz.t120) (@Tr.node TypeInfo (@some TypeInfo Tryz.t184) (@Tr.node 
  TypeInfo (@some TypeInfo Tryz.t312) (@Tr.nil TypeInfo) (@Tr.nil TypeInfo)) (@Tr.nil TypeInfo)) (@Tr.node TypeInfo (@some TypeInfo Tryz.t248) (@Tr.node TypeInfo (@some TypeInfo 
  Tryz.t376) (@Tr.nil TypeInfo) (@Tr.nil TypeInfo)) (@Tr.nil TypeInfo)))))) (@Tr.node TypeInfo (@some TypeInfo Tryz.t12) (@Tr.node TypeInfo (@some TypeInfo Tryz.t20) (@Tr.node 
  TypeInfo (@some TypeInfo Tryz.t36) (@Tr.node TypeInfo (@some TypeInfo Tryz.t68) (@Tr.node TypeInfo (@some TypeInfo Tryz.t132) (@Tr.node TypeInfo (@some TypeInfo Tryz.t260) (@Tr.nil 
  TypeInfo) (@Tr.nil TypeInfo)) (@Tr.node TypeInfo (@some TypeInfo Tryz.t388) (@Tr.nil TypeInfo) (@Tr.nil TypeInfo))) (@Tr.node TypeInfo (@some TypeInfo Tryz.t196) (@Tr.node TypeInfo 
  (@some TypeInfo Tryz.t324) (@Tr.nil TypeInfo) (@Tr.nil TypeInfo)) (@Tr.nil TypeInfo))) (@Tr.node TypeInfo (@some TypeInfo Tryz.t100) (@Tr.node TypeInfo (@some TypeInfo Tryz.t164) 
  (@Tr.node TypeInfo (@some TypeInfo Tryz.t292) (@Tr.nil TypeInfo) (@Tr.nil TypeInfo)) (@Tr.node TypeInfo (@some TypeInfo Tryz.t420) (@Tr.nil TypeInfo) (@Tr.nil TypeInfo))) (@Tr.node 
  TypeInfo (@some TypeInfo Tryz.t228) (@Tr.node TypeInfo (@some TypeInfo Tryz.t356) (@Tr.nil TypeInfo) (@Tr.nil TypeInfo)) (@Tr.nil TypeInfo)))) (@Tr.node TypeInfo (@some TypeInfo 
  Tryz.t52) (@Tr.node TypeInfo (@some TypeInfo Tryz.t84) (@Tr.node TypeInfo (@some TypeInfo Tryz.t148) (@Tr.node TypeInfo (@some TypeInfo Tryz.t276) (@Tr.nil TypeInfo) (@Tr.nil 
  TypeInfo)) (@Tr.node TypeInfo (@some TypeInfo Tryz.t404) (@Tr.nil TypeInfo) (@Tr.nil TypeInfo))) (@Tr.node TypeInfo (@some TypeInfo Tryz.t212) (@Tr.node TypeInfo (@some TypeInfo 
  Tryz.t340) (@Tr.nil TypeInfo) (@Tr.nil TypeInfo)) (@Tr.nil TypeInfo))) (@Tr.node TypeInfo (@some TypeInfo Tryz.t116) (@Tr.node TypeInfo (@some TypeInfo Tryz.t180) (@Tr.node 
  TypeInfo (@some TypeInfo Tryz.t308) (@Tr.nil TypeInfo) (@Tr.nil TypeInfo)) (@Tr.node TypeInfo (@some TypeInfo Tryz.t436) (@Tr.nil TypeInfo) (@Tr.nil TypeInfo))) (@Tr.node TypeInfo 
  (@some TypeInfo Tryz.t244) (@Tr.node TypeInfo (@some TypeInfo Tryz.t372) (@Tr.nil TypeInfo) (@Tr.nil TypeInfo)) (@Tr.nil TypeInfo))))) (@Tr.node TypeInfo (@some TypeInfo Tryz.t28) 
  (@Tr.node TypeInfo (@some TypeInfo Tryz.t44) (@Tr.node TypeInfo (@some TypeInfo Tryz.t76) (@Tr.node TypeInfo (@some TypeInfo Tryz.t140) (@Tr.node TypeInfo (@some TypeInfo 
  Tryz.t268) (@Tr.nil TypeInfo) (@Tr.nil TypeInfo)) (@Tr.node TypeInfo (@some TypeInfo Tryz.t396) (@Tr.nil TypeInfo) (@Tr.nil TypeInfo))) (@Tr.node TypeInfo (@some TypeInfo 
  Tryz.t204) (@Tr.node TypeInfo (@some TypeInfo Tryz.t332) (@Tr.nil TypeInfo) (@Tr.nil TypeInfo)) (@Tr.nil TypeInfo))) (@Tr.node TypeInfo (@some TypeInfo Tryz.t108) (@Tr.node 
  TypeInfo (@some TypeInfo Tryz.t172) (@Tr.node TypeInfo (@some TypeInfo Tryz.t300) (@Tr.nil TypeInfo) (@Tr.nil TypeInfo)) (@Tr.node TypeInfo (@some TypeInfo Tryz.t428) (@Tr.nil 
  TypeInfo) (@Tr.nil TypeInfo))) (@Tr.node TypeInfo (@some TypeInfo Tryz.t236) (@Tr.node TypeInfo (@some TypeInfo Tryz.t364) (@Tr.nil TypeInfo) (@Tr.nil TypeInfo)) (@Tr.nil 
  TypeInfo)))) (@Tr.node TypeInfo (@some TypeInfo Tryz.t60) (@Tr.node TypeInfo (@some TypeInfo Tryz.t92) (@Tr.node TypeInfo (@some TypeInfo Tryz.t156) (@Tr.node TypeInfo (@some 
  TypeInfo Tryz.t284) (@Tr.nil TypeInfo) (@Tr.nil TypeInfo)) (@Tr.node TypeInfo (@some TypeInfo Tryz.t412) (@Tr.nil TypeInfo) (@Tr.nil TypeInfo))) (@Tr.node TypeInfo (@some TypeInfo 
  Tryz.t220) (@Tr.node TypeInfo (@some TypeInfo Tryz.t348) (@Tr.nil TypeInfo) (@Tr.nil TypeInfo)) (@Tr.nil TypeInfo))) (@Tr.node TypeInfo (@some TypeInfo Tryz.t124) (@Tr.node 
  TypeInfo (@some TypeInfo Tryz.t188) (@Tr.node TypeInfo (@some TypeInfo Tryz.t316) (@Tr.nil TypeInfo) (@Tr.nil TypeInfo)) (@Tr.nil TypeInfo)) (@Tr.node TypeInfo (@some TypeInfo 
  Tryz.t252) (@Tr.node TypeInfo (@some TypeInfo Tryz.t380) (@Tr.nil TypeInfo) (@Tr.nil TypeInfo)) (@Tr.nil TypeInfo))))))) (@Tr.node TypeInfo (@some TypeInfo Tryz.t6) (@Tr.node 
  TypeInfo (@some TypeInfo Tryz.t10) (@Tr.node TypeInfo (@some TypeInfo Tryz.t18) (@Tr.node TypeInfo (@some TypeInfo Tryz.t34) (@Tr.node TypeInfo (@some TypeInfo Tryz.t66) (@Tr.node 
  TypeInfo (@some TypeInfo Tryz.t130) (@Tr.node TypeInfo (@some TypeInfo Tryz.t258) (@Tr.nil TypeInfo) (@Tr.nil TypeInfo)) (@Tr.node TypeInfo (@some TypeInfo Tryz.t386) (@Tr.nil 
  TypeInfo) (@Tr.nil TypeInfo))) (@Tr.node TypeInfo (@some TypeInfo Tryz.t194) (@Tr.node TypeInfo (@some TypeInfo Tryz.t322) (@Tr.nil TypeInfo) (@Tr.nil TypeInfo)) (@Tr.nil 
  TypeInfo))) (@Tr.node TypeInfo (@some TypeInfo Tryz.t98) (@Tr.node TypeInfo (@some TypeInfo Tryz.t162) (@Tr.node TypeInfo (@some TypeInfo Tryz.t290) (@Tr.nil TypeInfo) (@Tr.nil 
  TypeInfo)) (@Tr.node TypeInfo (@some TypeInfo Tryz.t418) (@Tr.nil TypeInfo) (@Tr.nil TypeInfo))) (@Tr.node TypeInfo (@some TypeInfo Tryz.t226) (@Tr.node TypeInfo (@some TypeInfo 
  Tryz.t354) (@Tr.nil TypeInfo) (@Tr.nil TypeInfo)) (@Tr.nil TypeInfo)))) (@Tr.node TypeInfo (@some TypeInfo Tryz.t50) (@Tr.node TypeInfo (@some TypeInfo Tryz.t82) (@Tr.node TypeInfo 
  (@some TypeInfo Tryz.t146) (@Tr.node TypeInfo (@some TypeInfo Tryz.t274) (@Tr.nil TypeInfo) (@Tr.nil TypeInfo)) (@Tr.node TypeInfo (@some TypeInfo Tryz.t402) (@Tr.nil TypeInfo) 
  (@Tr.nil TypeInfo))) (@Tr.node TypeInfo (@some TypeInfo Tryz.t210) (@Tr.node TypeInfo (@some TypeInfo Tryz.t338) (@Tr.nil TypeInfo) (@Tr.nil TypeInfo)) (@Tr.nil TypeInfo))) 
  (@Tr.node TypeInfo (@some TypeInfo Tryz.t114) (@Tr.node TypeInfo (@some TypeInfo Tryz.t178) (@Tr.node TypeInfo (@some TypeInfo Tryz.t306) (@Tr.nil TypeInfo) (@Tr.nil TypeInfo)) 
  (@Tr.node TypeInfo (@some TypeInfo Tryz.t434) (@Tr.nil TypeInfo) (@Tr.nil TypeInfo))) (@Tr.node TypeInfo (@some TypeInfo Tryz.t242) (@Tr.node TypeInfo (@some TypeInfo Tryz.t370) 
  (@Tr.nil TypeInfo) (@Tr.nil TypeInfo)) (@Tr.nil TypeInfo))))) (@Tr.node TypeInfo (@some TypeInfo Tryz.t26) (@Tr.node TypeInfo (@some TypeInfo Tryz.t42) (@Tr.node TypeInfo (@some 
  TypeInfo Tryz.t74) (@Tr.node TypeInfo (@some TypeInfo Tryz.t138) (@Tr.node TypeInfo (@some TypeInfo Tryz.t266) (@Tr.nil TypeInfo) (@Tr.nil TypeInfo)) (@Tr.node TypeInfo (@some 
  TypeInfo Tryz.t394) (@Tr.nil TypeInfo) (@Tr.nil TypeInfo))) (@Tr.node TypeInfo (@some TypeInfo Tryz.t202) (@Tr.node TypeInfo (@some TypeInfo Tryz.t330) (@Tr.nil TypeInfo) (@Tr.nil 
  TypeInfo)) (@Tr.nil TypeInfo))) (@Tr.node TypeInfo (@some TypeInfo Tryz.t106) (@Tr.node TypeInfo (@some TypeInfo Tryz.t170) (@Tr.node TypeInfo (@some TypeInfo Tryz.t298) (@Tr.nil 
  TypeInfo) (@Tr.nil TypeInfo)) (@Tr.node TypeInfo (@some TypeInfo Tryz.t426) (@Tr.nil TypeInfo) (@Tr.nil TypeInfo))) (@Tr.node TypeInfo (@some TypeInfo Tryz.t234) (@Tr.node TypeInfo 
  (@some TypeInfo Tryz.t362) (@Tr.nil TypeInfo) (@Tr.nil TypeInfo)) (@Tr.nil TypeInfo)))) (@Tr.node TypeInfo (@some TypeInfo Tryz.t58) (@Tr.node TypeInfo (@some TypeInfo Tryz.t90) 
  (@Tr.node TypeInfo (@some TypeInfo Tryz.t154) (@Tr.node TypeInfo (@some TypeInfo Tryz.t282) (@Tr.nil TypeInfo) (@Tr.nil TypeInfo)) (@Tr.node TypeInfo (@some TypeInfo Tryz.t410) 
  (@Tr.nil TypeInfo) (@Tr.nil TypeInfo))) (@Tr.node TypeInfo (@some TypeInfo Tryz.t218) (@Tr.node TypeInfo (@some TypeInfo Tryz.t346) (@Tr.nil TypeInfo) (@Tr.nil TypeInfo)) (@Tr.nil 
  TypeInfo))) (@Tr.node TypeInfo (@some TypeInfo Tryz.t122) (@Tr.node TypeInfo (@some TypeInfo Tryz.t186) (@Tr.node TypeInfo (@some TypeInfo Tryz.t314) (@Tr.nil TypeInfo) (@Tr.nil 
  TypeInfo)) (@Tr.nil TypeInfo)) (@Tr.node TypeInfo (@some TypeInfo Tryz.t250) (@Tr.node TypeInfo (@some TypeInfo Tryz.t378) (@Tr.nil TypeInfo) (@Tr.nil TypeInfo)) (@Tr.nil 
  TypeInfo)))))) (@Tr.node TypeInfo (@some TypeInfo Tryz.t14) (@Tr.node TypeInfo (@some TypeInfo Tryz.t22) (@Tr.node TypeInfo (@some TypeInfo Tryz.t38) (@Tr.node TypeInfo (@some 
  TypeInfo Tryz.t70) (@Tr.node TypeInfo (@some TypeInfo Tryz.t134) (@Tr.node TypeInfo (@some TypeInfo Tryz.t262) (@Tr.nil TypeInfo) (@Tr.nil TypeInfo)) (@Tr.node TypeInfo (@some 
  TypeInfo Tryz.t390) (@Tr.nil TypeInfo) (@Tr.nil TypeInfo))) (@Tr.node TypeInfo (@some TypeInfo Tryz.t198) (@Tr.node TypeInfo (@some TypeInfo Tryz.t326) (@Tr.nil TypeInfo) (@Tr.nil 
  TypeInfo)) (@Tr.nil TypeInfo))) (@Tr.node TypeInfo (@some TypeInfo Tryz.t102) (@Tr.node TypeInfo (@some TypeInfo Tryz.t166) (@Tr.node TypeInfo (@some TypeInfo Tryz.t294) (@Tr.nil 
  TypeInfo) (@Tr.nil TypeInfo)) (@Tr.node TypeInfo (@some TypeInfo Tryz.t422) (@Tr.nil TypeInfo) (@Tr.nil TypeInfo))) (@Tr.node TypeInfo (@some TypeInfo Tryz.t230) (@Tr.node TypeInfo 
  (@some TypeInfo Tryz.t358) (@Tr.nil TypeInfo) (@Tr.nil TypeInfo)) (@Tr.nil TypeInfo)))) (@Tr.node TypeInfo (@some TypeInfo Tryz.t54) (@Tr.node TypeInfo (@some TypeInfo Tryz.t86) 
  (@Tr.node TypeInfo (@some TypeInfo Tryz.t150) (@Tr.node TypeInfo (@some TypeInfo Tryz.t278) (@Tr.nil TypeInfo) (@Tr.nil TypeInfo)) (@Tr.node TypeInfo (@some TypeInfo Tryz.t406) 
  (@Tr.nil TypeInfo) (@Tr.nil TypeInfo))) (@Tr.node TypeInfo (@some TypeInfo Tryz.t214) (@Tr.node TypeInfo (@some TypeInfo Tryz.t342) (@Tr.nil TypeInfo) (@Tr.nil TypeInfo)) (@Tr.nil 
  TypeInfo))) (@Tr.node TypeInfo (@some TypeInfo Tryz.t118) (@Tr.node TypeInfo (@some TypeInfo Tryz.t182) (@Tr.node TypeInfo (@some TypeInfo Tryz.t310) (@Tr.nil TypeInfo) (@Tr.nil 
  TypeInfo)) (@Tr.node TypeInfo (@some TypeInfo Tryz.t438) (@Tr.nil TypeInfo) (@Tr.nil TypeInfo))) (@Tr.node TypeInfo (@some TypeInfo Tryz.t246) (@Tr.node TypeInfo (@some TypeInfo 
  Tryz.t374) (@Tr.nil TypeInfo) (@Tr.nil TypeInfo)) (@Tr.nil TypeInfo))))) (@Tr.node TypeInfo (@some TypeInfo Tryz.t30) (@Tr.node TypeInfo (@some TypeInfo Tryz.t46) (@Tr.node 
  TypeInfo (@some TypeInfo Tryz.t78) (@Tr.node TypeInfo (@some TypeInfo Tryz.t142) (@Tr.node TypeInfo (@some TypeInfo Tryz.t270) (@Tr.nil TypeInfo) (@Tr.nil TypeInfo)) (@Tr.node 
  TypeInfo (@some TypeInfo Tryz.t398) (@Tr.nil TypeInfo) (@Tr.nil TypeInfo))) (@Tr.node TypeInfo (@some TypeInfo Tryz.t206) (@Tr.node TypeInfo (@some TypeInfo Tryz.t334) (@Tr.nil 
  TypeInfo) (@Tr.nil TypeInfo)) (@Tr.nil TypeInfo))) (@Tr.node TypeInfo (@some TypeInfo Tryz.t110) (@Tr.node TypeInfo (@some TypeInfo Tryz.t174) (@Tr.node TypeInfo (@some TypeInfo 
  Tryz.t302) (@Tr.nil TypeInfo) (@Tr.nil TypeInfo)) (@Tr.node TypeInfo (@some TypeInfo Tryz.t430) (@Tr.nil TypeInfo) (@Tr.nil TypeInfo))) (@Tr.node TypeInfo (@some TypeInfo 
  Tryz.t238) (@Tr.node TypeInfo (@some TypeInfo Tryz.t366) (@Tr.nil TypeInfo) (@Tr.nil TypeInfo)) (@Tr.nil TypeInfo)))) (@Tr.node TypeInfo (@some TypeInfo Tryz.t62) (@Tr.node 
  TypeInfo (@some TypeInfo Tryz.t94) (@Tr.node TypeInfo (@some TypeInfo Tryz.t158) (@Tr.node TypeInfo (@some TypeInfo Tryz.t286) (@Tr.nil TypeInfo) (@Tr.nil TypeInfo)) (@Tr.node 
  TypeInfo (@some TypeInfo Tryz.t414) (@Tr.nil TypeInfo) (@Tr.nil TypeInfo))) (@Tr.node TypeInfo (@some TypeInfo Tryz.t222) (@Tr.node TypeInfo (@some TypeInfo Tryz.t350) (@Tr.nil 
  TypeInfo) (@Tr.nil TypeInfo)) (@Tr.nil TypeInfo))) (@Tr.node TypeInfo (@some TypeInfo Tryz.t126) (@Tr.node TypeInfo (@some TypeInfo Tryz.t190) (@Tr.node TypeInfo (@some TypeInfo 
  Tryz.t318) (@Tr.nil TypeInfo) (@Tr.nil TypeInfo)) (@Tr.nil TypeInfo)) (@Tr.node TypeInfo (@some TypeInfo Tryz.t254) (@Tr.node TypeInfo (@some TypeInfo Tryz.t382) (@Tr.nil TypeInfo) 
  (@Tr.nil TypeInfo)) (@Tr.nil TypeInfo))))))))) 
noncomputable def tabF : Tr Func := (@Tr.node Func (@none Func) (@Tr.node Func (@none Func) (@Tr.node Func (@some Func Tryz.f3) (@Tr.node Func (@some Func Tryz.f7) (@Tr.node Func (@some Func Tryz.f15) (@Tr.node Func 
  (@some Func Tryz.f31) (@Tr.node Func (@some Func Tryz.f63) (@Tr.node Func (@some Func Tryz.f127) (@Tr.node Func (@some Func Tryz.f255) (@Tr.nil Func) (@Tr.nil Func)) (@Tr.nil 
  Func)) (@Tr.node Func (@some Func Tryz.f191) (@Tr.nil Func) (@Tr.nil Func))) (@Tr.node Func (@some Func Tryz.f95) (@Tr.node Func (@some Func Tryz.f159) (@Tr.node Func (@some Func 
  Tryz.f287) (@Tr.nil Func) (@Tr.nil Func)) (@Tr.nil Func)) (@Tr.node Func (@some Func Tryz.f223) (@Tr.nil Func) (@Tr.nil Func)))) (@Tr.node Func (@some Func Tryz.f47) (@Tr.node Func 
  (@some Func Tryz.f79) (@Tr.node Func (@some Func Tryz.f143) (@Tr.node Func (@some Func Tryz.f271) (@Tr.nil Func) (@Tr.nil Func)) (@Tr.nil Func)) (@Tr.node Func (@some Func 
  Tryz.f207) (@Tr.nil Func) (@Tr.nil Func))) (@Tr.node Func (@some Func Tryz.f111) (@Tr.node Func (@some Func Tryz.f175) (@Tr.nil Func) (@Tr.nil Func)) (@Tr.node Func (@some Func 
  Tryz.f239) (@Tr.nil Func) (@Tr.nil Func))))) (@Tr.node Func (@some Func Tryz.f23) (@Tr.node Func (@some Func Tryz.f39) (@Tr.node Func (@some Func Tryz.f71) (@Tr.node Func (@some 
  Func Tryz.f135) (@Tr.node Func (@some Func Tryz.f263) (@Tr.nil Func) (@Tr.nil Func)) (@Tr.nil Func)) (@Tr.node Func (@some Func Tryz.f199) (@Tr.nil Func) (@Tr.nil Func))) (@Tr.node 
  Func (@some Func Tryz.f103) (@Tr.node Func (@some Func Tryz.f167) (@Tr.nil Func) (@Tr.nil Func)) (@Tr.node Func (@some Func Tryz.f231) (@Tr.nil Func) (@Tr.nil Func)))) (@Tr.node 
  Func (@some Func Tryz.f55) (@Tr.node Func (@some Func Tryz.f87) (@Tr.node Func (@some Func Tryz.f151) (@Tr.node Func (@some Func Tryz.f279) (@Tr.nil Func) (@Tr.nil Func)) (@Tr.nil 
  Func)) (@Tr.node Func (@some Func Tryz.f215) (@Tr.nil Func) (@Tr.nil Func))) (@Tr.node Func (@some Func Tryz.f119) (@Tr.node Func (@some Func Tryz.f183) (@Tr.nil Func) (@Tr.nil 
  Func)) (@Tr.node Func (@some Func Tryz.f247) (@Tr.nil Func) (@Tr.nil Func)))))) (@Tr.node Func (@some Func Tryz.f11) (@Tr.node Func (@some Func Tryz.f19) (@Tr.node Func (@some Func 
  Tryz.f35) (@Tr.node Func (@some Func Tryz.f67) (@Tr.node Func (@some Func Tryz.f131) (@Tr.node Func (@some Func Tryz.f259) (@Tr.nil Func) (@Tr.nil Func)) (@Tr.nil Func)) (@Tr.node 
  Func (@some Func Tryz.f195) (@Tr.nil Func) (@Tr.nil Func))) (@Tr.node Func (@some Func Tryz.f99) (@Tr.node Func (@some Func Tryz.f163) (@Tr.node Func (@some Func Tryz.f291) 
  (@Tr.nil Func) (@Tr.nil Func)) (@Tr.nil Func)) (@Tr.node Func (@some Func Tryz.f227) (@Tr.nil Func) (@Tr.nil Func)))) (@Tr.node Func (@some Func Tryz.f51) (@Tr.node Func (@some 
  Func Tryz.f83) (@Tr.node Func (@some Func Tryz.f147) (@Tr.node Func (@some Func Tryz.f275) (@Tr.nil Func) (@Tr.nil Func)) (@Tr.nil Func)) (@Tr.node Func (@some Func Tryz.f211) 
  (@Tr.nil Func) (@Tr.nil Func))) (@Tr.node Func (@some Func Tryz.f115) (@Tr.node Func (@some Func Tryz.f179) (@Tr.nil Func) (@Tr.nil Func)) (@Tr.node Func (@some Func Tryz.f243) 
  (@Tr.nil Func) (@Tr.nil Func))))) (@Tr.node Func (@some Func Tryz.f27) (@Tr.node Func (@some Func Tryz.f43) (@Tr.node Func (@some Func Tryz.f75) (@Tr.node Func (@some Func 
  Tryz.f139) (@Tr.node Func (@some Func Tryz.f267) (@Tr.nil Func) (@Tr.nil Func)) (@Tr.nil Func)) (@Tr.node Func (@some Func Tryz.f203) (@Tr.nil Func) (@Tr.nil Func))) (@Tr.node Func 
  (@some Func Tryz.f107) (@Tr.node Func (@some Func Tryz.f171) (@Tr.nil Func) (@Tr.nil Func)) (@Tr.node Func (@some Func Tryz.f235) (@Tr.nil Func) (@Tr.nil Func)))) (@Tr.node Func 
  (@some Func Tryz.f59) (@Tr.node Func (@some Func Tryz.f91) (@Tr.node Func (@some Func Tryz.f155) (@Tr.node Func (@some Func Tryz.f283) (@Tr.nil Func) (@Tr.nil Func)) (@Tr.nil 
  Func)) (@Tr.node Func (@some Func Tryz.f219) (@Tr.nil Func) (@Tr.nil Func))) (@Tr.node Func (@some Func Tryz.f123) (@Tr.node Func (@some Func Tryz.f187) (@Tr.nil Func) (@Tr.nil 
  Func)) (@Tr.node Func (@some Func Tryz.f251) (@Tr.nil Func) (@Tr.nil Func))))))) (@Tr.node Func (@some Func Tryz.f5) (@Tr.node Func (@some Func Tryz.f9) (@Tr.node Func (@some Func 
  Tryz.f17) (@Tr.node Func (@some Func Tryz.f33) (@Tr.node Func (@some Func Tryz.f65) (@Tr.node Func (@some Func Tryz.f129) (@Tr.node Func (@some Func Tryz.f257) (@Tr.nil Func) 
  (@Tr.nil Func)) (@Tr.nil Func)) (@Tr.node Func (@some Func Tryz.f193) (@Tr.nil Func) (@Tr.nil Func))) (@Tr.node Func (@some Func Tryz.f97) (@Tr.node Func (@some Func Tryz.f161) 
  (@Tr.node Func (@some Func Tryz.f289) (@Tr.nil Func) (@Tr.nil Func)) (@Tr.nil Func)) (@Tr.node Func (@some Func Tryz.f225) (@Tr.nil Func) (@Tr.nil Func)))) (@Tr.node Func (@some 
  Func Tryz.f49) (@Tr.node Func (@some Func Tryz.f81) (@Tr.node Func (@some Func Tryz.f145) (@Tr.node Func (@some Func Tryz.f273) (@Tr.nil Func) (@Tr.nil Func)) (@Tr.nil Func)) 
  (@Tr.node Func (@some Func Tryz.f209) (@Tr.nil Func) (@Tr.nil Func))) (@Tr.node Func (@some Func Tryz.f113) (@Tr.node Func (@some Func Tryz.f177) (@Tr.nil Func) (@Tr.nil Func)) 
  (@Tr.node Func (@some Func Tryz.f241) (@Tr.nil Func) (@Tr.nil Func))))) (@Tr.node Func (@some Func Tryz.f25) (@Tr.node Func (@some Func Tryz.f41) (@Tr.node Func (@some Func 
  Tryz.f73) (@Tr.node Func (@some Func Tryz.f137) (@Tr.node Func (@some Func Tryz.f265) (@Tr.nil Func) (@Tr.nil Func)) (@Tr.nil Func)) (@Tr.node Func (@some Func Tryz.f201) (@Tr.nil 
  Func) (@Tr.nil Func))) (@Tr.node Func (@some Func Tryz.f105) (@Tr.node Func (@some Func Tryz.f169) (@Tr.nil Func) (@Tr.nil Func)) (@Tr.node Func (@some Func Tryz.f233) (@Tr.nil 
  Func) (@Tr.nil Func)))) (@Tr.node Func (@some Func Tryz.f57) (@Tr.node Func (@some Func Tryz.f89) (@Tr.node Func (@some Func Tryz.f153) (@Tr.node Func (@some Func Tryz.f281) 
  (@Tr.nil Func) (@Tr.nil Func)) (@Tr.nil Func)) (@Tr.node Func (@some Func Tryz.f217) (@Tr.nil Func) (@Tr.nil Func))) (@Tr.node Func (@some Func Tryz.f121) (@Tr.node Func (@some 
  Func Tryz.f185) (@Tr.nil Func) (@Tr.nil Func)) (@Tr.node Func (@some Func Tryz.f249) (@Tr.nil Func) (@Tr.nil Func)))))) (@Tr.node Func (@some Func Tryz.f13) (@Tr.node Func (@some 
  Func Tryz.f21) (@Tr.node Func (@some Func Tryz.f37) (@Tr.node Func (@some Func Tryz.f69) (@Tr.node Func (@some Func Tryz.f133) (@Tr.node Func (@some Func Tryz.f261) (@Tr.nil Func) 
  (@Tr.nil Func)) (@Tr.nil Func)) (@Tr.node Func (@some Func Tryz.f197) (@Tr.nil Func) (@Tr.nil Func))) (@Tr.node Func (@some Func Tryz.f101) (@Tr.node Func (@some Func Tryz.f165) 
  (@Tr.node Func (@some Func Tryz.f293) (@Tr.nil Func) (@Tr.nil Func)) (@Tr.nil Func)) (@Tr.node Func (@some Func Tryz.f229) (@Tr.nil Func) (@Tr.nil Func)))) (@Tr.node Func (@some 
  Func Tryz.f53) (@Tr.node Func (@some Func Tryz.f85) (@Tr.node Func (@some Func Tryz.f149) (@Tr.node Func (@some Func Tryz.f277) (@Tr.nil Func) (@Tr.nil Func)) (@Tr.nil Func)) 
  (@Tr.node Func (@some Func Tryz.f213) (@Tr.nil Func) (@Tr.nil Func))) (@Tr.node Func (@some Func Tryz.f117) (@Tr.node Func (@some Func Tryz.f181) (@Tr.nil Func) (@Tr.nil Func)) 
  (@Tr.node Func (@some Func Tryz.f245) (@Tr.nil Func) (@Tr.nil Func))))) (@Tr.node Func (@some Func Tryz.f29) (@Tr.node Func (@some Func Tryz.f45) (@Tr.node Func (@some Func 
  Tryz.f77) (@Tr.node Func (@some Func Tryz.f141) (@Tr.node Func (@some Func Tryz.f269) (@Tr.nil Func) (@Tr.nil Func)) (@Tr.nil Func)) (@Tr.node Func (@some Func Tryz.f205) (@Tr.nil 
  Func) (@Tr.nil Func))) (@Tr.node Func (@some Func Tryz.f109) (@Tr.node Func (@some Func Tryz.f173) (@Tr.nil Func) (@Tr.nil Func)) (@Tr.node Func (@some Func Tryz.f237) (@Tr.nil 
  Func) (@Tr.nil Func)))) (@Tr.node Func (@some Func Tryz.f61) (@Tr.node Func (@some Func Tryz.f93) (@Tr.node Func (@some Func Tryz.f157) (@Tr.node Func (@some Func Tryz.f285) 
  (@Tr.nil Func) (@Tr.nil Func)) (@Tr.nil Func)) (@Tr.node Func (@some Func Tryz.f221) (@Tr.nil Func) (@Tr.nil Func))) (@Tr.node Func (@some Func Tryz.f125) (@Tr.node Func (@some 
  Func Tryz.f189) (@Tr.nil Func) (@Tr.nil Func)) (@Tr.node Func (@some Func Tryz.f253) (@Tr.nil Func) (@Tr.nil Func)))))))) (@Tr.node Func (@none Func) (@Tr.node Func (@some Func 
  Tryz.f4) (@Tr.node Func (@some Func Tryz.f8) (@Tr.node Func (@some Func Tryz.f16) (@Tr.node Func (@some Func Tryz.f32) (@Tr.node Func (@some Func Tryz.f64) (@Tr.node Func (@some 
  Func Tryz.f128) (@Tr.node Func (@some Func Tryz.f256) (@Tr.nil Func) (@Tr.nil Func)) (@Tr.nil Func)) (@Tr.node Func (@some Func Tryz.f192) (@Tr.nil Func) (@Tr.nil Func))) (@Tr.node 
  Func (@some Func Tryz.f96) (@Tr.node Func (@some Func Tryz.f160) (@Tr.node Func (@some Func Tryz.f288) (@Tr.nil Func) (@Tr.nil Func)) (@Tr.nil Func)) (@Tr.node Func (@some Func 
  Tryz.f224) (@Tr.nil Func) (@Tr.nil Func)))) (@Tr.node Func (@some Func Tryz.f48) (@Tr.node Func (@some Func Tryz.f80) (@Tr.node Func (@some Func Tryz.f144) (@Tr.node Func (@some 
  Func Tryz.f272) (@Tr.nil Func) (@Tr.nil Func)) (@Tr.nil Func)) (@Tr.node Func (@some Func Tryz.f208) (@Tr.nil Func) (@Tr.nil Func))) (@Tr.node Func (@some Func Tryz.f112) (@Tr.node 
  Func (@some Func Tryz.f176) (@Tr.nil Func) (@Tr.nil Func)) (@Tr.node Func (@some Func Tryz.f240) (@Tr.nil Func) (@Tr.nil Func))))) (@Tr.node Func (@some Func Tryz.f24) (@Tr.node 
  Func (@some Func Tryz.f40) (@Tr.node Func (@some Func Tryz.f72) (@Tr.node Func (@some Func Tryz.f136) (@Tr.node Func (@some Func Tryz.f264) (@Tr.nil Func) (@Tr.nil Func)) (@Tr.nil 
  Func)) (@Tr.node Func (@some Func Tryz.f200) (@Tr.nil Func) (@Tr.nil Func))) (@Tr.node Func (@some Func Tryz.f104) (@Tr.node Func (@some Func Tryz.f168) (@Tr.nil Func) (@Tr.nil 
  Func)) (@Tr.node Func (@some Func Tryz.f232) (@Tr.nil Func) (@Tr.nil Func)))) (@Tr.node Func (@some Func Tryz.f56) (@Tr.node Func (@some Func Tryz.f88) (@Tr.node Func (@some Func 
  Tryz.f152) (@Tr.node Func (@some Func Tryz.f280) (@Tr.nil Func) (@Tr.nil Func)) (@Tr.nil Func)) (@Tr.node Func (@some Func Tryz.f216) (@Tr.nil Func) (@Tr.nil Func))) (@Tr.node Func 
  (@some Func Tryz.f120) (@Tr.node Func (@some Func Tryz.f184) (@Tr.nil Func) (@Tr.nil Func)) (@Tr.node Func (@some Func Tryz.f248) (@Tr.nil Func) (@Tr.nil Func)))))) (@Tr.node Func 
  (@some Func Tryz.f12) (@Tr.node Func (@some Func Tryz.f20) (@Tr.node Func (@some Func Tryz.f36) (@Tr.node Func (@some Func Tryz.f68) (@Tr.node Func (@some Func Tryz.f132) (@Tr.node 
  Func (@some Func Tryz.f260) (@Tr.nil Func) (@Tr.nil Func)) (@Tr.nil Func)) (@Tr.node Func (@some Func Tryz.f196) (@Tr.nil Func) (@Tr.nil Func))) (@Tr.node Func (@some Func 
  Tryz.f100) (@Tr.node Func (@some Func Tryz.f164) (@Tr.node Func (@some Func Tryz.f292) (@Tr.nil Func) (@Tr.nil Func)) (@Tr.nil Func)) (@Tr.node Func (@some Func Tryz.f228) (@Tr.nil 
  Func) (@Tr.nil Func)))) (@Tr.node Func (@some Func Tryz.f52) (@Tr.node Func (@some Func Tryz.f84) (@Tr.node Func (@some Func Tryz.f148) (@Tr.node Func (@some Func Tryz.f276) 
  (@Tr.nil Func) (@Tr.nil Func)) (@Tr.nil Func)) (@Tr.node Func (@some Func Tryz.f212) (@Tr.nil Func) (@Tr.nil Func))) (@Tr.node Func (@some Func Tryz.f116) (@Tr.node Func (@some 
  Func Tryz.f180) (@Tr.nil Func) (@Tr.nil Func)) (@Tr.node Func (@some Func Tryz.f244) (@Tr.nil Func) (@Tr.nil Func))))) (@Tr.node Func (@some Func Tryz.f28) (@Tr.node Func (@some 
  Func Tryz.f44) (@Tr.node Func (@some Func Tryz.f76) (@Tr.node Func (@some Func Tryz.f140) (@Tr.node Func (@some Func Tryz.f268) (@Tr.nil Func) (@Tr.nil Func)) (@Tr.nil Func)) 
  (@Tr.node Func (@some Func Tryz.f204) (@Tr.nil Func) (@Tr.nil Func))) (@Tr.node Func (@some Func Tryz.f108) (@Tr.node Func (@some Func Tryz.f172) (@Tr.nil Func) (@Tr.nil Func)) 
  (@Tr.node Func (@some Func Tryz.f236) (@Tr.nil Func) (@Tr.nil Func)))) (@Tr.node Func (@some Func Tryz.f60) (@Tr.node Func (@some Func Tryz.f92) (@Tr.node Func (@some Func 
  Tryz.f156) (@Tr.node Func (@some Func Tryz.f284) (@Tr.nil Func) (@Tr.nil Func)) (@Tr.nil Func)) (@Tr.node Func (@some Func Tryz.f220) (@Tr.nil Func) (@Tr.nil Func))) (@Tr.node Func 
  (@some Func Tryz.f124) (@Tr.node Func (@some Func Tryz.f188) (@Tr.nil Func) (@Tr.nil Func)) (@Tr.node Func (@some Func Tryz.f252) (@Tr.nil Func) (@Tr.nil Func))))))) (@Tr.node Func 
  (@some Func Tryz.f6) (@Tr.node Func (@some Func Tryz.f10) (@Tr.node Func (@some Func Tryz.f18) (@Tr.node Func (@some Func Tryz.f34) (@Tr.node Func (@some Func Tryz.f66) (@Tr.node 
  Func (@some Func Tryz.f130) (@Tr.node Func (@some Func Tryz.f258) (@Tr.nil Func) (@Tr.nil Func)) (@Tr.nil Func)) (@Tr.node Func (@some Func Tryz.f194) (@Tr.nil Func) (@Tr.nil 
  Func))) (@Tr.node Func (@some Func Tryz.f98) (@Tr.node Func (@some Func Tryz.f162) (@Tr.node Func (@some Func Tryz.f290) (@Tr.nil Func) (@Tr.nil Func)) (@Tr.nil Func)) (@Tr.node 
  Func (@some Func Tryz.f226) (@Tr.nil Func) (@Tr.nil Func)))) (@Tr.node Func (@some Func Tryz.f50) (@Tr.node Func (@some Func Tryz.f82) (@Tr.node Func (@some Func Tryz.f146) 
  (@Tr.node Func (@some Func Tryz.f274) (@Tr.nil Func) (@Tr.nil Func)) (@Tr.nil Func)) (@Tr.node Func (@some Func Tryz.f210) (@Tr.nil Func) (@Tr.nil Func))) (@Tr.node Func (@some 
  Func Tryz.f114) (@Tr.node Func (@some Func Tryz.f178) (@Tr.nil Func) (@Tr.nil Func)) (@Tr.node Func (@some Func Tryz.f242) (@Tr.nil Func) (@Tr.nil Func))))) (@Tr.node Func (@some 
  Func Tryz.f26) (@Tr.node Func (@some Func Tryz.f42) (@Tr.node Func (@some Func Tryz.f74) (@Tr.node Func (@some Func Tryz.f138) (@Tr.node Func (@some Func Tryz.f266) (@Tr.nil Func) 
  (@Tr.nil Func)) (@Tr.nil Func)) (@Tr.node Func (@some Func Tryz.f202) (@Tr.nil Func) (@Tr.nil Func))) (@Tr.node Func (@some Func Tryz.f106) (@Tr.node Func (@some Func Tryz.f170) 
  (@Tr.nil Func) (@Tr.nil Func)) (@Tr.node Func (@some Func Tryz.f234) (@Tr.nil Func) (@Tr.nil Func)))) (@Tr.node Func (@some Func Tryz.f58) (@Tr.node Func (@some Func Tryz.f90) 
  (@Tr.node Func (@some Func Tryz.f154) (@Tr.node Func (@some Func Tryz.f282) (@Tr.nil Func) (@Tr.nil Func)) (@Tr.nil Func)) (@Tr.node Func (@some Func Tryz.f218) (@Tr.nil Func) 
  (@Tr.nil Func))) (@Tr.node Func (@some Func Tryz.f122) (@Tr.node Func (@some Func Tryz.f186) (@Tr.nil Func) (@Tr.nil Func)) (@Tr.node Func (@some Func Tryz.f250) (@Tr.nil Func) 
  (@Tr.nil Func)))))) (@Tr.node Func (@some Func Tryz.f14) (@Tr.node Func (@some Func Tryz.f22) (@Tr.node Func (@some Func Tryz.f38) (@Tr.node Func (@some Func Tryz.f70) (@Tr.node 
  Func (@some Func Tryz.f134) (@Tr.node Func (@some Func Tryz.f262) (@Tr.nil Func) (@Tr.nil Func)) (@Tr.nil Func)) (@Tr.node Func (@some Func Tryz.f198) (@Tr.nil Func) (@Tr.nil 
  Func))) (@Tr.node Func (@some Func Tryz.f102) (@Tr.node Func (@some Func Tryz.f166) (@Tr.nil Func) (@Tr.nil Func)) (@Tr.node Func (@some Func Tryz.f230) (@Tr.nil Func) (@Tr.nil 
  Func)))) (@Tr.node Func (@some Func Tryz.f54) (@Tr.node Func (@some Func Tryz.f86) (@Tr.node Func (@some Func Tryz.f150) (@Tr.node Func (@some Func Tryz.f278) (@Tr.nil Func) 
  (@Tr.nil Func)) (@Tr.nil Func)) (@Tr.node Func (@some Func Tryz.f214) (@Tr.nil Func) (@Tr.nil Func))) (@Tr.node Func (@some Func Tryz.f118) (@Tr.node Func (@some Func Tryz.f182) 
  (@Tr.nil Func) (@Tr.nil Func)) (@Tr.node Func (@some Func Tryz.f246) (@Tr.nil Func) (@Tr.nil Func))))) (@Tr.node Func (@some Func Tryz.f30) (@Tr.node Func (@some Func Tryz.f46) 
  (@Tr.node Func (@some Func Tryz.f78) (@Tr.node Func (@some Func Tryz.f142) (@Tr.node Func (@some Func Tryz.f270) (@Tr.nil Func) (@Tr.nil Func)) (@Tr.nil Func)) (@Tr.node Func 
  (@some Func Tryz.f206) (@Tr.nil Func) (@Tr.nil Func))) (@Tr.node Func (@some Func Tryz.f110) (@Tr.node Func (@some Func Tryz.f174) (@Tr.nil Func) (@Tr.nil Func)) (@Tr.node Func 
  (@some Func Tryz.f238) (@Tr.nil Func) (@Tr.nil Func)))) (@Tr.node Func (@some Func Tryz.f62) (@Tr.node Func (@some Func Tryz.f94) (@Tr.node Func (@some Func Tryz.f158) (@Tr.node 
  Func (@some Func Tryz.f286) (@Tr.nil Func) (@Tr.nil Func)) (@Tr.nil Func)) (@Tr.node Func (@some Func Tryz.f222) (@Tr.nil Func) (@Tr.nil Func))) (@Tr.node Func (@some Func 
  Tryz.f126) (@Tr.node Func (@some Func Tryz.f190) (@Tr.nil Func) (@Tr.nil Func)) (@Tr.node Func (@some Func Tryz.f254) (@Tr.nil Func) (@Tr.nil Func))))))))) 
end Go.Proofs.YtdgjcjhicbgfaaaGreat
end

/- What the machine takes as known of the codecs and of the filter's two loops. Conditions: none; plain definitions. -/
section
set_option linter.unusedSimpArgs false
set_option linter.unusedVariables false
namespace Go.Proofs.YtdgjcjhicbgfaaaGreat
open Go.RowKit

abbrev Prim := List AV → St → Option (AV × St)
/-- How long a string may be. -/
def lenB (σ : St) : AV → Option (Int × Int)
  | .str s => some (s.length, s.length)
  | .txt b => match σ.heap.get b with | some (.txt n _) => bnd σ n | _ => none
  | _ => none
def newTxt (σ : St) (lo hi : Int) (pv : Prov) : AV × St := (.txt (σ.next + 1), (σ.add (.num lo hi)).add (.txt (.sym σ.next 0) pv))
def u8 (n : Int) : AV := .int .u8 n
def i64 (n : Int) : AV := .int .i64 n
def srcA : List AV := [u8 10, u8 0, u8 0, u8 0]
def dstA : List AV := [u8 224, u8 224, u8 0, u8 10]
def provOf (σ : St) : AV → Option Prov
  | .txt b => match σ.heap.get b with | some (.txt _ pv) => some pv | _ => none
  | _ => none
def pUdpEnc : Prim := fun args σ => match args with
  | [.agg e, d] => match AV.eqbL e (srcA ++ dstA ++ [i64 5, i64 5]), lenB σ d with
    | true, some (lo, hi) => if hi ≤ 100 then (match newTxt σ (8 + lo) (8 + hi) (.udp d) with | (t, σ') => some (.tup [t, i64 0], σ')) else none
    | _, _ => none
  | _ => none
def pUdpDec : Prim := fun args σ => match args with
  | [.agg a, .agg b, s] => match AV.eqbL a srcA, AV.eqbL b dstA, provOf σ s with
    | true, true, some (.udp d) => some (.tup [.agg (srcA ++ dstA ++ [i64 5, i64 5]), d, i64 0], σ)
    | _, _, _ => none
  | _ => none
def pIpEnc : Prim := fun args σ => match args with
  | [.agg (.int .i64 id :: r)] => match r with
    | [m, o, t, p, s0, s1, s2, s3, d0, d1, d2, d3, d] => match AV.eqbL [m, o, t, p, s0, s1, s2, s3, d0, d1, d2, d3] ([.bool false, i64 0, i64 1, i64 17] ++ srcA ++ dstA), lenB σ d with
      | true, some (lo, hi) => if 0 ≤ id then (if id ≤ 65535 then (if hi ≤ 108 then (match newTxt σ (20 + lo) (20 + hi) (.ip id.toNat d) with | (t, σ') => some (.tup [t, i64 0], σ')) else none) else none) else none
      | _, _ => none
    | _ => none
  | _ => none
def pIpDec : Prim := fun args σ => match args with
  | [s] => match provOf σ s with
    | some (.ip id d) => some (.tup [.agg ([i64 id, .bool false, i64 0, i64 1, i64 17] ++ srcA ++ dstA ++ [d]), i64 0], σ)
    | _ => none
  | _ => none
def pEthEnc : Prim := fun args σ => match args with
  | [.agg [vl, fr, .int .i64 net, .int .i64 seq, d]] => match AV.eqb vl (i64 10), AV.eqb fr (i64 0), lenB σ d with
    | true, true, some (lo, hi) => if 0 ≤ net then (if net ≤ 1 then (if 0 ≤ seq then (if seq ≤ 255 then (if hi ≤ 128 then
        (match newTxt σ (19 + (if lo < 45 then 45 else lo)) (19 + (if hi < 45 then 45 else hi)) (.eth net.toNat seq.toNat d) with | (t, σ') => some (.tup [t, i64 0], σ')) else none) else none) else none) else none) else none
    | _, _, _ => none
  | _ => none
def pEthDec : Prim := fun args σ => match args with
  | [s] => match provOf σ s with
    | some (.eth net seq d) => match lenB σ d with
      | some (lo, hi) => match newTxt σ (if lo < 45 then 45 else lo) (if hi < 45 then 45 else hi) (match provOf σ d with | some (.ip id e) => .ip id e | _ => .any) with
        | (t, σ') => some (.tup [.agg [i64 10, i64 0, i64 net, i64 seq, t], i64 0], σ')
      | none => none
    | some .bad => some (.tup [.agg [i64 0, i64 0, i64 0, i64 0, .str []], i64 12], σ)
    | _ => none
  | _ => none
/-- The filter's frames, one behind the other: their numbers, when they came, and the networks on which they came. -/
structure Fq (α : Type) where
  seq : Int
  tick : α
  nets : Int
def netsOk (n : Int) : Bool := if n = 1 then true else if n = 2 then true else if n = 3 then true else false
def parseF : List AV → Option (List (Fq AV))
  | [] => some []
  | .int .i64 s :: t :: .int .u64 n :: r => match netsOk n, parseF r with
    | true, some l => some (⟨s, t, n⟩ :: l)
    | _, _ => none
  | _ => none
def hitF (n net : Int) : Bool := if n = 3 then true else if n = 1 then (if net = 0 then true else false) else (if net = 1 then true else false)
def copyGo {α : Type} (net seq : Int) : List (Fq α) → Nat → Int → Int × Option Nat
  | [], _, e => (e, none)
  | f :: r, i, e => if f.seq = seq then (match hitF f.nets net with | true => copyGo net seq r (i + 1) 25 | false => (21, some i)) else copyGo net seq r (i + 1) e
def frames (σ : St) : AV → Option (Option (Nat × Nat × List AV))
  | .nsl => some none
  | .slu b o _ n _ => match n with
    | 0 => some none
    | k + 1 => match Nat.ble k 999, σ.heap.get b with
      | true, some (.cells c _) => match cut c o (n * 3) with | some l => some (some (b, o, l)) | none => none
      | _, _ => none
  | _ => none
def fieldA (σ : St) (b o : Nat) : Option AV := match σ.heap.get b with
  | some (.cells c _) => c[o]?
  | _ => none
def netOk (net : Int) : Bool := if net = 0 then true else if net = 1 then true else false
def markF (σ : St) (bb at_ : Nat) (e : Int) : Option (AV × St) := match σ.heap.get bb with
  | some (.cells cs room) => match Nat.blt at_ cs.length with
    | true => some (i64 e, ⟨σ.heap.set bb (.cells (splice cs at_ [.int .u64 3]) room), σ.next⟩)
    | false => none
  | _ => none
def pCopied : Prim := fun args σ => match args with
  | [.ptr b o, .int .i64 net, .int .i64 seq] => match netOk net, fieldA σ b o with
    | true, some v => match frames σ v with
      | some none => some (i64 0, σ)
      | some (some (bb, oo, l)) => match parseF l with
        | some fs => match copyGo net seq fs 0 0 with
          | (e, none) => some (i64 e, σ)
          | (e, some i) => markF σ bb (oo + (i * 3 + 2)) e
        | none => none
      | none => none
    | _, _ => none
  | _ => none
def stepI (a b : Int) : Int := if 0 ≤ a then (if a ≤ 255 then (if 1 ≤ b then (if b ≤ 255 then (if (b - a + 255) % 255 = 0 then 255 else (b - a + 255) % 255) else 0) else 0) else 0) else 0
def aheadF (n : Int) : Bool := if 1 ≤ n then (if n ≤ 127 then true else false) else false
def passGo {α : Type} (seq : Int) : List (Fq α) → Bool
  | [] => false
  | f :: r => match aheadF (stepI seq f.seq) with
    | true => true
    | false => passGo seq r
def pPassed : Prim := fun args σ => match args with
  | [.ptr b o, .int .i64 seq] => match fieldA σ b o with
    | some v => match frames σ v with
      | some none => some (.bool false, σ)
      | some (some (_, _, l)) => match parseF l with | some fs => some (.bool (passGo seq fs), σ) | none => none
      | none => none
    | none => none
  | _ => none
def primT (f : Nat) : Option Prim := match f with
  | 66 => some pUdpEnc
  | 116 => some pUdpDec
  | 68 => some pIpEnc
  | 113 => some pIpDec
  | 94 => some pEthEnc
  | 110 => some pEthDec
  | 161 => some pCopied
  | 162 => some pPassed
  | _ => none
end Go.Proofs.YtdgjcjhicbgfaaaGreat
end

/- A run over a small memory is a run over any memory that holds a copy of it under other numbers. Conditions: none but those that the lemmas name. -/
section
set_option linter.unusedSimpArgs false
set_option linter.unusedVariables false
namespace Go.Proofs.YtdgjcjhicbgfaaaGreat
open Go.RowKit

mutual
def AV.ren (m : Nat → Nat) : AV → AV
  | .bool b => .bool b
  | .int k n => .int k n
  | .sym b c => .sym (m b) c
  | .str s => .str s
  | .txt b => .txt (m b)
  | .ptr b o => .ptr (m b) o
  | .nptr => .nptr
  | .sl b o n c => .sl (m b) o n c
  | .slu b o q n d => .slu (m b) o q n d
  | .nsl => .nsl
  | .map b => .map (m b)
  | .nmap => .nmap
  | .fn f a c => .fn f (AV.renL m a) (AV.renL m c)
  | .nfn => .nfn
  | .iface t v => .iface t (AV.ren m v)
  | .nif => .nif
  | .agg cs => .agg (AV.renL m cs)
  | .tup cs => .tup (AV.renL m cs)
def AV.renL (m : Nat → Nat) : List AV → List AV
  | [] => []
  | v :: r => AV.ren m v :: AV.renL m r
end
mutual
theorem conc_ren (ν : Nu) (m : Nat → Nat) : ∀ v : AV, (v.ren m).conc ν = v.conc (fun i => ν (m i))
  | .bool _ | .int .. | .sym .. | .str _ | .txt _ | .ptr .. | .nptr | .sl .. | .slu .. | .nsl | .map _ | .nmap | .nfn | .nif => by unfold AV.ren AV.conc; rfl
  | .fn f a c => by unfold AV.ren AV.conc; rw [concL_ren ν m a, concL_ren ν m c]
  | .iface t v => by unfold AV.ren AV.conc; rw [conc_ren ν m v]
  | .agg cs => by unfold AV.ren AV.conc; rw [concL_ren ν m cs]
  | .tup cs => by unfold AV.ren AV.conc; rw [concL_ren ν m cs]
theorem concL_ren (ν : Nu) (m : Nat → Nat) : ∀ l : List AV, AV.concL ν (AV.renL m l) = AV.concL (fun i => ν (m i)) l
  | [] => by unfold AV.renL AV.concL; rfl
  | v :: r => by unfold AV.renL AV.concL; rw [conc_ren ν m v, concL_ren ν m r]
end
theorem renL_get (m : Nat → Nat) : ∀ (l : List AV) (i : Nat), (AV.renL m l)[i]? = (l[i]?).map (AV.ren m)
  | [], i => by unfold AV.renL; simp
  | v :: r, i => by
    unfold AV.renL
    cases i with
    | zero => simp
    | succ i => simpa using renL_get m r i
theorem renL_len (m : Nat → Nat) : ∀ (l : List AV), (AV.renL m l).length = l.length
  | [] => by unfold AV.renL; rfl
  | v :: r => by unfold AV.renL; simp [renL_len m r]
/-- Rows of cells, by their numbers. -/
abbrev Objs := List (Nat × List AV × Option Nat)
def heapOf : Objs → Tr AO → Tr AO
  | [], t => t
  | (i, c, r) :: l, t => heapOf l (t.set i (.cells c r))
theorem heapOf_get : ∀ {l : Objs} {t : Tr AO} {i : Nat} {o : AO}, (heapOf l t).get i = some o → (∃ c r, (i, c, r) ∈ l ∧ o = .cells c r) ∨ t.get i = some o
  | [], t, i, o, h => .inr h
  | (j, c, r) :: l, t, i, o, h => by
    unfold heapOf at h
    rcases heapOf_get h with ⟨c', r', h1, h2⟩ | h1
    · exact .inl ⟨c', r', List.mem_cons_of_mem _ h1, h2⟩
    · rw [Tr.get_set] at h1
      split at h1
      · rename_i e; cases h1; subst e; exact .inl ⟨c, r, by simp, rfl⟩
      · exact .inr h1
def lookN (d : Nat) (i : Nat) : List (Nat × Nat) → Nat
  | [] => d + i
  | (a, b) :: r => match Nat.beq a i with | true => b | false => lookN d i r
def keysIn (n : Nat) : List (Nat × Nat) → Bool
  | [] => true
  | (a, _) :: r => match Nat.blt a n with | true => keysIn n r | false => false
theorem lookN_out {d n i : Nat} : ∀ {l : List (Nat × Nat)}, keysIn n l = true → n ≤ i → lookN d i l = d + i
  | [], _, _ => rfl
  | (a, b) :: r, h, hi => by
    unfold keysIn at h
    split at h <;> first | (cases h; done) | skip
    rename_i hb
    unfold lookN
    have := blt_lt hb
    split
    · rename_i he; have := Nat.eq_of_beq_eq_true he; omega
    · exact lookN_out h hi
/-- The memory holds the rows under other numbers. -/
def holds (σ : St) (m : Nat → Nat) : Objs → Bool
  | [] => true
  | (i, c, r) :: l => match σ.heap.get (m i) with
    | some (.cells c' r') => match AV.eqbL c' (AV.renL m c), optB r' r with
      | true, true => holds σ m l
      | _, _ => false
    | _ => false
theorem holds_ok {σ : St} {m : Nat → Nat} : ∀ {l : Objs}, holds σ m l = true → ∀ i c r, (i, c, r) ∈ l → σ.heap.get (m i) = some (.cells (AV.renL m c) r)
  | [], _, i, c, r, hm => by simp at hm
  | (j, c', r') :: l, h, i, c, r, hm => by
    unfold holds at h
    split at h <;> first | (cases h; done) | skip
    rename_i c2 r2 hg
    split at h <;> first | (cases h; done) | skip
    rename_i e1 e2
    rcases List.mem_cons.1 hm with e | hm
    · injection e with a1 a2
      injection a2 with a2 a3
      subst a1 a2 a3
      rw [hg, AV.eqbL_ok _ _ e1, optB_ok e2]
    · exact holds_ok h i c r hm
def distinct (m : Nat → Nat) : Objs → Bool
  | [] => true
  | (i, _, _) :: l => match l.all (fun x => !(Nat.beq (m x.1) (m i))) with | true => distinct m l | false => false
theorem distinct_ok {m : Nat → Nat} : ∀ {l : Objs}, distinct m l = true → ∀ x y, x ∈ l → y ∈ l → m x.1 = m y.1 → x.1 = y.1
  | [], _, x, y, hx, _, _ => by simp at hx
  | (i, c, r) :: l, h, x, y, hx, hy, e => by
    unfold distinct at h
    split at h <;> first | (cases h; done) | skip
    rename_i ha
    rw [List.all_eq_true] at ha
    have hne : ∀ z ∈ l, m z.1 ≠ m i := by
      intro z hz e
      have := ha z hz
      rw [e] at this
      simp at this
    rcases List.mem_cons.1 hx with rfl | hx
    · rcases List.mem_cons.1 hy with rfl | hy
      · rfl
      · exact (hne y hy e.symm).elim
    · rcases List.mem_cons.1 hy with rfl | hy
      · exact (hne x hx e).elim
      · exact distinct_ok h x y hx hy e
def kept (σ : St) : Objs → Bool
  | [] => true
  | (i, c, r) :: l => match σ.heap.get i with
    | some (.cells c' r') => match AV.eqbL c' c, optB r' r with
      | true, true => kept σ l
      | _, _ => false
    | _ => false
theorem kept_ok {σ : St} : ∀ {l : Objs}, kept σ l = true → ∀ i c r, (i, c, r) ∈ l → σ.heap.get i = some (.cells c r)
  | [], _, i, c, r, hm => by simp at hm
  | (j, c', r') :: l, h, i, c, r, hm => by
    unfold kept at h
    split at h <;> first | (cases h; done) | skip
    rename_i c2 r2 hg
    split at h <;> first | (cases h; done) | skip
    rename_i e1 e2
    rcases List.mem_cons.1 hm with e | hm
    · injection e with a1 a2
      injection a2 with a2 a3
      subst a1 a2 a3
      rw [hg, AV.eqbL_ok _ _ e1, optB_ok e2]
    · exact kept_ok h i c r hm
def idsIn (n : Nat) : Objs → Bool
  | [] => true
  | (i, _, _) :: l => match Nat.blt i n with | true => idsIn n l | false => false
theorem idsIn_ok {n : Nat} : ∀ {l : Objs}, idsIn n l = true → ∀ x ∈ l, x.1 < n
  | [], _, x, hx => by simp at hx
  | (i, c, r) :: l, h, x, hx => by
    unfold idsIn at h
    split at h <;> first | (cases h; done) | skip
    rename_i hb
    rcases List.mem_cons.1 hx with rfl | hx
    · exact blt_lt hb
    · exact idsIn_ok h x hx
theorem Row.cast {ν ν' : Nu} {w : World} {c c' : List AV} {room : Option Nat} {k sh cap : Nat} (r : Row ν w c room k sh cap) (hl : c'.length = c.length) (h : ∀ (i : Nat) (v : AV) (u : Value), c'[i]? = some v → (∃ v0 : AV, c[i]? = some v0 ∧ v0.conc ν = some u) → v.conc ν' = some u) : Row ν' w c' room k sh cap := by
  obtain ⟨cs, el, fr, h1, h2, h3, h4, h5⟩ := r.out
  refine ⟨cs, el, fr, h1, by omega, ?_, h4, by rw [hl]; exact h5⟩
  intro i v hv
  have hi := (List.getElem?_eq_some_iff.1 hv).1
  have hv0 : c[i]? = some c[i] := List.getElem?_eq_getElem (by omega)
  obtain ⟨u, hu, hc⟩ := h3 i _ hv0
  exact ⟨u, hu, h i v u hv ⟨_, hv0, hc⟩⟩
/-- A call over a copy. -/
theorem reloc {C : Cfg} (hC : COk C) {n f nx : Nat} {objs : Objs} {argsc args : List AV} {v : AV} {σc' : St} {mp : List (Nat × Nat)} {σ : St}
    (hrun : callA C n f argsc ⟨heapOf objs .nil, nx⟩ = some (v, σc')) (hkept : kept σc' objs = true) (hids : idsIn nx objs = true) (hpl : ∀ ν ν' : Nu, v.conc ν = v.conc ν')
    (hkeys : keysIn nx mp = true) (hholds : holds σ (fun i => lookN σ.next i mp) objs = true) (hdist : distinct (fun i => lookN σ.next i mp) objs = true) (hargs : AV.eqbL args (AV.renL (fun i => lookN σ.next i mp) argsc) = true)
    {base : Nat} {ν : Nu} {w : World} (r : Rel base ν σ w) (ht : Top ν σ) {vs : List Value} (ha : AV.concL ν args = some vs) : Calls C.P f vs.toArray w (Done base ν σ w v σ) := by
  have ha' : AV.concL (fun i => ν (lookN σ.next i mp)) argsc = some vs := by
    rw [← concL_ren, ← AV.eqbL_ok _ _ hargs]
    exact ha
  have hget : ∀ i o, (heapOf objs .nil).get i = some o → ∃ c rm, (i, c, rm) ∈ objs ∧ o = .cells c rm ∧ σ.heap.get (lookN σ.next i mp) = some (.cells (AV.renL (fun i => lookN σ.next i mp) c) rm) := by
    intro i o h
    rcases heapOf_get h with ⟨c, rm, h1, h2⟩ | h1
    · exact ⟨c, rm, h1, h2, holds_ok hholds i c rm h1⟩
    · rw [Tr.get_nil] at h1; cases h1
  have rc : Rel base (fun i => ν (lookN σ.next i mp)) ⟨heapOf objs .nil, nx⟩ w := by
    refine ⟨?_, ?_, ?_, ?_, r.size⟩
    · intro i o h
      obtain ⟨c, rm, h1, rfl, h3⟩ := hget i o h
      obtain ⟨e, he, hi⟩ := r.obj _ _ h3
      refine ⟨e, he, ?_⟩
      cases hi with
      | cells _ _ k sh cap hr =>
        refine .cells _ _ _ _ _ (hr.cast (renL_len _ c).symm ?_)
        rintro j v u hv ⟨v0, hv0, hc⟩
        rw [renL_get, hv] at hv0
        cases hv0
        rw [conc_ren] at hc
        exact hc
    · intro i i' o o' k s s' c c' h1 h2 p1 p2 n1 n2
      obtain ⟨c1, r1, m1, rfl, q1⟩ := hget i o h1
      obtain ⟨c2, r2, m2, rfl, q2⟩ := hget i' o' h2
      have := r.inj _ _ _ _ _ _ _ _ _ q1 q2 rfl rfl n1 n2
      exact distinct_ok hdist _ _ m1 m2 this
    · rintro k ⟨i, o, s, c, h1, h2, h3⟩
      obtain ⟨c1, r1, m1, rfl, q1⟩ := hget i o h1
      exact r.own k ⟨_, _, s, c, q1, rfl, h3⟩
    · intro i o h
      obtain ⟨c1, r1, m1, rfl, q1⟩ := hget i o h
      exact idsIn_ok hids _ m1
  have tc : Top (fun i => ν (lookN σ.next i mp)) ⟨heapOf objs .nil, nx⟩ := by
    intro b hb
    show ν (lookN σ.next b mp) = none
    rw [lookN_out hkeys hb]
    exact ht _ (Nat.le_add_right _ _)
  refine Calls.mono (callA_ok hC hrun rc tc ha') ?_
  rintro e w' ⟨ν', c, rfl, g1, g2, g3⟩
  have hlive : ∀ k, Live (fun i => ν (lookN σ.next i mp)) ⟨heapOf objs .nil, nx⟩ k → Live ν σ k := by
    rintro k ⟨i, o, s, c, h1, h2, h3⟩
    obtain ⟨c1, r1, m1, rfl, q1⟩ := hget i o h1
    exact ⟨_, _, s, c, q1, rfl, h3⟩
  refine ⟨ν, c, rfl, ?_, ?_, ⟨.refl _, fun _ _ => rfl, Nat.le_refl _, g3.os, g3.tape, g3.output, g3.size, fun k hk hl => g3.keep k hk (fun hh => hl (hlive k hh)), fun _ h => .inl h, fun _ h => h⟩⟩
  · rw [hpl ν ν']; exact g1
  · refine ⟨?_, r.inj, r.own, r.lt, Nat.le_trans r.size g3.size⟩
    intro b o hb
    obtain ⟨e, he, hi⟩ := r.obj b o hb
    refine ⟨e, he, ?_⟩
    by_cases hm : ∃ i c rm, (i, c, rm) ∈ objs ∧ b = lookN σ.next i mp
    · obtain ⟨i, c1, rm, hmem, rfl⟩ := hm
      have hq := holds_ok hholds i c1 rm hmem
      rw [hb] at hq; cases hq
      obtain ⟨e', he', hi'⟩ := g2.obj i _ (kept_ok hkept i c1 rm hmem)
      have := g3.le i e he
      rw [this] at he'; cases he'
      cases hi' with
      | cells _ _ k sh cap hr' =>
        refine .cells _ _ _ _ _ (hr'.cast (renL_len _ c1) ?_)
        rintro j v u hv ⟨v0, hv0, hc⟩
        rw [renL_get, hv0] at hv
        cases hv
        rw [conc_ren]
        -- what the copy's cell stands for is what it stood for
        cases hi with
        | cells _ _ _ _ _ hr =>
          obtain ⟨cs, el, fr, q1, q2, q3, q4, q5⟩ := hr.out
          obtain ⟨u0, _, hu0⟩ := q3 j (AV.ren (fun i => lookN σ.next i mp) v0) (by rw [renL_get, hv0]; rfl)
          rw [conc_ren] at hu0
          have := AV.conc_mono g3.le _ _ hu0
          rw [hc] at this; cases this
          exact hu0
    · refine hi.mono (.refl _) (fun k s c' hk hp => ?_)
      subst hk
      refine g3.keep k (r.live_lt ⟨b, o, s, c', hb, hp, he⟩) ?_
      rintro ⟨i, o', s', c'', h1, h2, h3⟩
      obtain ⟨c1, r1, m1, rfl, q1⟩ := hget i o' h1
      have := r.inj _ _ _ _ _ _ _ _ _ hb q1 hp rfl he h3
      exact hm ⟨i, c1, r1, m1, this⟩
end Go.Proofs.YtdgjcjhicbgfaaaGreat
end

/- The machine's tables are the program's. Conditions: none. -/
section
set_option linter.unusedSimpArgs false
set_option linter.unusedVariables false
set_option maxRecDepth 100000
namespace Go.Proofs.YtdgjcjhicbgfaaaGreat
open Go.RowKit
def Tr.toL {α : Type} : Tr α → Nat → Nat → List (Nat × α)
  | .nil, _, _ => []
  | .node v l r, a, b => match v with
    | some x => (b, x) :: (toL l (a * 2) (b + a) ++ toL r (a * 2) (b + a * 2))
    | none => toL l (a * 2) (b + a) ++ toL r (a * 2) (b + a * 2)
theorem Tr.toL_mem {α : Type} : ∀ (t : Tr α) (a b n : Nat) (x : α), t.get n = some x → (b + a * n, x) ∈ t.toL a b
  | .nil, a, b, n, x, h => by rw [Tr.get_nil] at h; cases h
  | .node v l r, a, b, n, x, h => by
    cases n with
    | zero =>
      rw [Tr.get_zero] at h
      have h : v = some x := h
      subst h
      unfold toL
      simp
    | succ m =>
      have key : (b + a * (m + 1), x) ∈ toL l (a * 2) (b + a) ++ toL r (a * 2) (b + a * 2) := by
        rw [List.mem_append]
        cases hb : Nat.beq (m % 2) 0 with
        | true =>
          rw [Tr.get_even _ _ hb] at h
          have := toL_mem l (a * 2) (b + a) _ _ h
          have e := bit_even hb
          left
          have hh : b + a + a * 2 * (m / 2) = b + a * (m + 1) := by
            have h2 : m = 2 * (m / 2) := by omega
            calc b + a + a * 2 * (m / 2) = b + a + a * (2 * (m / 2)) := by rw [Nat.mul_assoc]
              _ = b + a + a * m := by rw [← h2]
              _ = b + a * (m + 1) := by rw [Nat.mul_add]; omega
          rw [hh] at this
          exact this
        | false =>
          rw [Tr.get_odd _ _ hb] at h
          have := toL_mem r (a * 2) (b + a * 2) _ _ h
          have e := bit_odd hb
          right
          have hh : b + a * 2 + a * 2 * (m / 2) = b + a * (m + 1) := by
            have h2 : m = 2 * (m / 2) + 1 := by omega
            calc b + a * 2 + a * 2 * (m / 2) = b + a * 2 + a * (2 * (m / 2)) := by rw [Nat.mul_assoc]
              _ = b + a * (2 * (m / 2) + 1 + 1) := by rw [Nat.mul_add, Nat.mul_add]; omega
              _ = b + a * (m + 1) := by rw [← h2]
          rw [hh] at this
          exact this
      unfold toL
      cases v with
      | none => exact key
      | some y => exact List.mem_cons_of_mem _ key
theorem Tr.all {α : Type} {t : Tr α} {f : Nat → Option α} (h : (t.toL 1 0).map (fun p => f p.1) = (t.toL 1 0).map (fun p => some p.2)) (n : Nat) (x : α) (hx : t.get n = some x) : f n = some x := by
  have hm := Tr.toL_mem t 1 0 n x hx
  rw [Nat.zero_add, Nat.one_mul] at hm
  exact List.map_inj_left.1 h _ hm
theorem tabT_ok : TOk Tryz.prog tabT := by
  intro t i h
  exact Tr.all (f := fun n => Tryz.prog.info? n) (by kernel_rfl) t i h
theorem tabF_ok {f : Nat} {fn : Func} (h : tabF.get f = some fn) : Tryz.prog.funcs[f]? = some fn :=
  Tr.all (f := fun n => Tryz.prog.funcs[n]?) (by kernel_rfl) f fn h
theorem tabF_named {f : Nat} {fn : Func} (h : tabF.get f = some fn) : (fn.name == "runtime.NumGoroutine") = false := by
  have hm := Tr.toL_mem tabF 1 0 f fn h
  have : ((tabF.toL 1 0).all (fun p => !(p.2.name == "runtime.NumGoroutine"))) = true := by kernel_rfl
  rw [List.all_eq_true] at this
  simpa using this _ hm
theorem mixed_ok : Tryz.prog.follows .mixedOrders = true := by kernel_rfl
end Go.Proofs.YtdgjcjhicbgfaaaGreat
end

/- What the machine takes as known of config.Check: its answer on the tables that Built makes. Conditions: those of the known codecs. -/
section
set_option linter.unusedSimpArgs false
set_option linter.unusedVariables false
set_option maxRecDepth 100000
namespace Go.Proofs.YtdgjcjhicbgfaaaGreat
open Go.RowKit
noncomputable def C0 : Cfg := ⟨Tryz.prog, tabT, tabF, primT⟩
def tru : AV := .bool true
def fls : AV := .bool false
def chkObjs (s : Int) : Objs := [
  (2, [i64 0, i64 1, i64 2], none),
  (3, [i64 0, i64 0, i64 1000, i64 1, i64 0, i64 1000, i64 2, i64 0, i64 1000], none),
  (5, [i64 1], none),
  (7, [i64 10, i64 0, i64 0, i64 s, fls, i64 2, i64 60000, .sl 5 0 1 1], some 8),
  (15, [i64 10, i64 0, i64 0, i64 2, tru, i64 10, i64 0, i64 5, i64 100, i64 1, i64 0,
    i64 20, i64 1, i64 1, i64 2, fls, i64 10, i64 0, i64 5, i64 100, i64 64, i64 0,
    i64 30, i64 0, i64 0, i64 1, tru, i64 10, i64 1, i64 6, i64 20, i64 0, i64 0,
    i64 31, i64 1, i64 1, i64 1, fls, i64 10, i64 0, i64 6, i64 20, i64 0, i64 1000000], some 11)]
def chkArg : AV := .agg [i64 3, .sl 2 0 3 3, i64 1000, .sl 3 0 3 3, .slu 7 0 0 1 0, .slu 15 0 0 4 0]
def chkRes : AV := .tup [.agg [i64 0, i64 0], i64 0]
def chkRun (C : Cfg) (s : Int) : Bool := match callA C 1000 11 [chkArg] ⟨heapOf (chkObjs s) .nil, 16⟩ with
  | some (v, σ) => match AV.eqb v chkRes, kept σ (chkObjs s) with | true, true => true | _, _ => false
  | none => false
theorem chk80 : chkRun C0 80 = true := by kernel_rfl
theorem chk200 : chkRun C0 200 = true := by kernel_rfl
def mpOf (args : List AV) (σ : St) : Option (List (Nat × Nat)) := match args with
  | [.agg [_, .sl a _ _ _, _, .sl b _ _ _, .slu c _ _ _ _, .slu d _ _ _ _]] => match σ.heap.get c with
    | some (.cells [_, _, _, _, _, _, _, .sl e _ _ _] _) => some [(2, a), (3, b), (5, e), (7, c), (15, d)]
    | _ => none
  | _ => none
def chkAt (s : Int) (args : List AV) (σ : St) (mp : List (Nat × Nat)) : Bool :=
  match keysIn 16 mp, holds σ (fun i => lookN σ.next i mp) (chkObjs s), distinct (fun i => lookN σ.next i mp) (chkObjs s), AV.eqbL args (AV.renL (fun i => lookN σ.next i mp) [chkArg]) with
  | true, true, true, true => true
  | _, _, _, _ => false
def pCheck : Prim := fun args σ => match mpOf args σ with
  | some mp => match chkAt 80 args σ mp with
    | true => some (chkRes, σ)
    | false => match chkAt 200 args σ mp with
      | true => some (chkRes, σ)
      | false => none
  | none => none
def prim1 (f : Nat) : Option Prim := match f with
  | 11 => some pCheck
  | f => primT f
noncomputable def C1 : Cfg := ⟨Tryz.prog, tabT, tabF, prim1⟩
theorem chkAt_ok (hC : COk C0) {s : Int} (hrun : chkRun C0 s = true) (hids : idsIn 16 (chkObjs s) = true) {args : List AV} {σ : St} {mp : List (Nat × Nat)} (h : chkAt s args σ mp = true)
    {base : Nat} {ν : Nu} {w : World} (r : Rel base ν σ w) (ht : Top ν σ) {vs : List Value} (ha : AV.concL ν args = some vs) : Calls Tryz.prog 11 vs.toArray w (Done base ν σ w chkRes σ) := by
  unfold chkAt at h
  split at h <;> first | (cases h; done) | skip
  rename_i h1 h2 h3 h4
  unfold chkRun at hrun
  split at hrun <;> first | (cases hrun; done) | skip
  rename_i v σ' hc
  split at hrun <;> first | (cases hrun; done) | skip
  rename_i g1 g2
  have := AV.eqb_ok _ _ g1
  subst this
  exact reloc hC hc g2 hids (fun _ _ => rfl) h1 h2 h3 h4 r ht ha
theorem pCheck_ok (hC : COk C0) {base : Nat} {ν : Nu} {σ : St} {w : World} {args : List AV} {vs : List Value} {v : AV} {σ' : St} (h : pCheck args σ = some (v, σ')) (r : Rel base ν σ w) (ht : Top ν σ) (ha : AV.concL ν args = some vs) :
    Calls Tryz.prog 11 vs.toArray w (Done base ν σ w v σ') := by
  unfold pCheck at h
  split at h <;> first | (cases h; done) | skip
  rename_i mp hm
  split at h
  · rename_i g; cases h; exact chkAt_ok hC chk80 rfl g r ht ha
  · split at h
    · rename_i g; cases h; exact chkAt_ok hC chk200 rfl g r ht ha
    · cases h
theorem c0_ok (h : PrimOk C0) : COk C0 := ⟨tabT_ok, fun f fn hf => ⟨tabF_ok hf, tabF_named hf⟩, h, mixed_ok⟩
theorem c1_ok (h : PrimOk C0) : COk C1 := by
  refine ⟨tabT_ok, fun f fn hf => ⟨tabF_ok hf, tabF_named hf⟩, ?_, mixed_ok⟩
  intro f g hg
  by_cases e : f = 11
  · subst e
    have hg : some pCheck = some g := hg
    cases hg
    exact ⟨⟨_, tabF_ok (f := 11) rfl, by kernel_rfl, by kernel_rfl⟩, fun base ν σ w args vs v σ' h1 r ht ha => pCheck_ok (c0_ok h) h1 r ht ha⟩
  · refine h f g ?_
    show primT f = some g
    have : prim1 f = primT f := by unfold prim1; split <;> first | (exact (e rfl).elim) | rfl
    rw [← this]
    exact hg
end Go.Proofs.YtdgjcjhicbgfaaaGreat
end
