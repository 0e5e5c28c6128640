/- The machine's further steps, those that write, and what it is. Conditions: those of each lemma, none else. -/
import Derived.Test.YtdgjcjhicbgfaaaGreatMb
import Derived.Laws.Append
import Derived.Scope
set_option linter.unusedVariables false
set_option linter.unusedSimpArgs false

/- The machine's conversions, and what it reads in maps. Conditions: none but those that the lemmas name. -/
section
set_option linter.unusedSimpArgs false
set_option linter.unusedVariables false
namespace Go.Proofs.YtdgjcjhicbgfaaaGreat
open Go.RowKit

/-! ### Conversions -/
def byteVals (s : List Nat) : List AV := s.map fun b => .int .u8 ((b % 256 : Nat) : Int)
def natsOf : List AV → Option (List Nat)
  | [] => some []
  | .int .u8 n :: r => match natsOf r with | some l => some (n.toNat :: l) | none => none
  | _ => none
def fConv (T : Tr TypeInfo) (σ : St) (src dst : TypeId) (x : AV) : Option FR :=
  match undT T src, undT T dst, x with
  | some _, some (.int k), .int _ n => some (.val (.int k (wrapF k n)))
  | some _, some (.int .i64), .sym .. => match bnd σ x with
    | some (lo, hi) => match inI64 lo hi with | true => some (.val x) | false => none
    | none => none
  | some _, some .string, .str _ => some (.val x)
  | some _, some .string, .txt _ => some (.val x)
  | some _, some (.slice e), .str s => match undT T e with
    | some (.int .u8) => some (.new (.cells (byteVals s) (some 1)) (.slu s.length))
    | _ => none
  | some (.slice e), some .string, x => match undT T e with
    | some (.int .u8) => match x, sliceOf x with
      | .nsl, _ => some (.val (.str []))
      | _, some (b, o, n) => match σ.heap.get b with
        | some (.cells c _) => match cut c o n with
          | some l => match natsOf l with | some s => some (.val (.str s)) | none => none
          | none => none
        | _ => none
      | _, _ => none
    | _ => none
  | _, _, _ => none
theorem natsOf_ok {ν : Nu} : ∀ {l : List AV} {s : List Nat} {vs : List Value}, natsOf l = some s → AV.concL ν l = some vs → ∃ xs : List Int, vs = xs.map (Value.int .u8) ∧ s = xs.map Int.toNat
  | [], s, vs, h, hc => by cases h; rw [concL_nil] at hc; cases hc; exact ⟨[], rfl, rfl⟩
  | a :: r, s, vs, h, hc => by
    obtain ⟨x, y, hx, hy, rfl⟩ := concL_cons hc
    unfold natsOf at h
    split at h
    · rename_i hh; cases hh
    · rename_i n r' hh
      cases hh
      split at h
      · rename_i l hl
        cases h
        obtain ⟨xs, rfl, rfl⟩ := natsOf_ok hl hy
        obtain rfl := conc_int hx
        exact ⟨n :: xs, rfl, rfl⟩
      · cases h
    · cases h
theorem byteVals_ok (ν : Nu) (s : List Nat) : AV.concL ν (byteVals s) = some ((bytesOf s).data.toList.map fun b => Value.int .u8 b.toNat) := by
  rw [bytesOf_data]
  unfold byteVals
  induction s with
  | nil => exact concL_nil ν
  | cons b s ih =>
    simp only [List.map_cons] at ih ⊢
    refine concL_mk ?_ ih
    unfold AV.conc
    simp
section
variable {P : Program} {T : Tr TypeInfo} (hT : TOk P T) {base : Nat} {ν : Nu} {σ : St} {w : World}
include hT
theorem fConv_ok (r : Rel base ν σ w) {src dst : TypeId} {x : AV} {a : Value} {f : FR} (h : fConv T σ src dst x = some f) (hx : x.conc ν = some a) : FS P ν w (do pure (.value (← convert src dst a))) f := by
  unfold fConv at h
  split at h
  · rename_i d k kk n hs hd
    cases h
    obtain rfl := conc_int hx
    refine VS.fs ⟨.int k (k.wrap n), ?_, by rw [wrapF_eq]; exact int_conc _ _ _⟩
    simp only [convert, Sem.run_bind, run_und hT w hs, run_und hT w hd, Result.andThen_ok]
    rfl
  · rename_i d b e hs hd
    split at h <;> first | (cases h; done) | skip
    rename_i lo hi hb
    split at h <;> first | (cases h; done) | skip
    rename_i g1
    cases h
    obtain ⟨z, rfl, p1, p2⟩ := bnd_ok r hb hx
    have := inI64_ok g1
    refine VS.fs ⟨.int .i64 z, ?_, hx⟩
    simp only [convert, Sem.run_bind, run_und hT w hs, run_und hT w hd, Result.andThen_ok]
    show (Conv.intToInt .i64 z).run P w = _
    simp [Conv.intToInt, wrap_i64 (z := z) (by omega) (by omega)]
  · rename_i d s hs hd
    cases h
    obtain rfl := conc_str hx
    exact VS.fs ⟨_, by simp only [convert, Sem.run_bind, run_und hT w hs, run_und hT w hd, Result.andThen_ok]; rfl, hx⟩
  · rename_i d s hs hd
    cases h
    obtain ⟨z, hz, rfl⟩ := conc_txt hx
    exact VS.fs ⟨_, by simp only [convert, Sem.run_bind, run_und hT w hs, run_und hT w hd, Result.andThen_ok]; rfl, hx⟩
  · rename_i d e s hs hd
    split at h
    · rename_i he
      cases h
      obtain rfl := conc_str hx
      let cap := (Question.appendCap (bytesOf s).size 0 e).cut (w.tape w.drawn (Question.appendCap (bytesOf s).size 0 e))
      have hcap : s.length ≤ cap := by
        show s.length ≤ (bytesOf s).size + _
        rw [bytesOf_size]; omega
      let row : Array Value := ((bytesOf s).data.map fun b => Value.int .u8 b.toNat) ++ Array.replicate (cap - (bytesOf s).size) (.int .u8 0)
      have hrow : row.size = cap := by
        show (((bytesOf s).data.map fun b => Value.int .u8 b.toNat) ++ Array.replicate (cap - (bytesOf s).size) (Value.int .u8 0)).size = cap
        have : (bytesOf s).data.size = s.length := bytesOf_size s
        simp [this, bytesOf_size]; omega
      refine ⟨.slice (some ⟨w.heap.size, 0, none⟩) (bytesOf s).size cap, { w with drawn := w.drawn + 1, heap := (w.heap.push (.cells row e)).modify w.heap.size (fun o => match o with | .cells c elem (lo, hi) => .cells c elem (if lo == hi then (row.size, row.size + 1) else (min lo row.size, max hi (row.size + 1))) | o => o) }, .loc w.heap.size 0 cap, ?_, ?_, ?_, ?_, ?_⟩
      · have hc : (convert src dst (.string (bytesOf s))).run P w = (Conv.stringToBytes e (bytesOf s)).run P w := by
          simp only [convert, Sem.run_bind, run_und hT w hs, run_und hT w hd, Result.andThen_ok, run_und hT w he]
        simp only [Sem.run_bind, hc]
        simp only [Conv.stringToBytes, Sem.run_bind, run_choose, Question.forced, Bool.false_eq_true, if_false, Result.andThen_ok, newRow, run_newObj, Sem.run_pure, markStringish, run_shape, World.shape?]
        simp only [Array.getElem?_push_size]
        simp only [freeze, Sem.run, World.freeze, Nat.one_ne_zero, if_false, Result.andThen_ok, Sem.run_pure]
        rfl
      · refine ⟨rfl, rfl, rfl, by simp, ?_⟩
        intro k hk
        show ((w.heap.push _).modify _ _)[k]? = _
        rw [Array.getElem?_modify, if_neg (by omega), Array.getElem?_push, if_neg (by omega)]
      · intro b ν' hle hb
        unfold NK.av
        rw [conc_slu_mk hb (by omega), bytesOf_size]
        simp
      · refine .cells _ _ _ _ _ ⟨row, e, (row.size, row.size + 1), ?_, ?_, ?_, ?_, ?_⟩
        · show ((w.heap.push _).modify _ _)[w.heap.size]? = _
          rw [Array.getElem?_modify, if_pos rfl]
          simp
        · simp [byteVals, hrow]; omega
        · intro i v hv
          obtain ⟨x, hx, hc⟩ := concL_get (byteVals_ok ν s) i v hv
          refine ⟨x, ?_, hc⟩
          have : i < (bytesOf s).data.size := by
            have := (List.getElem?_eq_some_iff.1 hx).1
            simpa using this
          show row[0 + i]? = some x
          rw [Nat.zero_add, Array.getElem?_append_left (by simpa using this)]
          simpa using hx
        · intro i _ h1 h2
          simp at h2; omega
        · intro sz hsz; cases hsz
          simp [byteVals, hrow]; omega
      · intro k s' c hh _; cases hh; exact Nat.le_refl _
    · cases h
  · rename_i x' e hs hd _ _
    split at h
    · rename_i he
      split at h
      · cases h
        obtain rfl := conc_nsl hx
        refine VS.fs ⟨.string ByteArray.empty, run_convert_bytes_nil w src e (und_ok hT hs) (und_ok hT he) _ _ dst (und_ok hT hd), ?_⟩
        unfold AV.conc
        rfl
      · rename_i b o n h_1 h_2 h_3 hso
        split at h
        · rename_i c room hb
          split at h
          · rename_i l hl
            split at h
            · rename_i s hn
              cases h
              obtain ⟨k, s', m, q, cc, hν, rfl, hq⟩ := sliceOf_ok hso hx
              obtain ⟨vs, h1, h2, h3⟩ := (r.row hb hν).cells hl
              obtain ⟨xs, rfl, rfl⟩ := natsOf_ok hn h1
              refine VS.fs ⟨.string (strOfNums xs), ?_, ?_⟩
              · refine run_convert_bytes_arg w src e (und_ok hT hs) (und_ok hT he) k (s' + q) n cc xs (by simpa using h2) ?_ dst (und_ok hT hd)
                intro i hi
                obtain rfl := hq (by omega)
                refine h3 i _ ?_
                have : i < xs.length := by simp at h2; omega
                simp [List.getElem?_eq_getElem this]
              · unfold AV.conc bytesOf strOfNums
                simp
            · cases h
          · cases h
        · cases h
      · cases h
    · cases h
  · cases h

/-! ### Maps -/
/-- Is it a key whose sameness can be told? -/
inductive KeyKind where
  | num (k : IntKind) (n : Int)
  | parts (v : Value)
def keyKind (P : Program) (T : Tr TypeInfo) (kt : TypeId) (empty : Bool) (x : AV) : Option KeyKind :=
  match undT T kt, x with
  | some (.int _), .int k n => some (.num k n)
  | some (.struct _), .agg cs => match plain (.agg cs) with
    | some v => match pureRun P (Instr.checkKey empty 10000 kt v) with | some _ => some (.parts v) | none => none
    | none => none
  | _, _ => none
def findA (P : Program) (kt : TypeId) (kk : KeyKind) : List (AV × AV × Nat) → Nat → Option (Option (Nat × AV × Nat))
  | [], _ => some none
  | (k, v, born) :: r, i => match kk with
    | .num kd n => match k with
      | .int kd' m => if kd = kd' then (if n = m then some (some (i, v, born)) else findA P kt kk r (i + 1)) else none
      | _ => none
    | .parts u => match plain k with
      | some ku => match pureRun P (Op.equal kt u ku) with
        | some true => some (some (i, v, born))
        | some false => findA P kt kk r (i + 1)
        | none => none
      | none => none
/-- The model finds it there. -/
def Found (ν : Nu) (es : List (AV × AV × Nat)) (el : List MapEntry) (i : Nat) (v : AV) (born : Nat) (c : Value) : Prop :=
  ∃ k e, es[i]? = some (k, v, born) ∧ el[i]? = some e ∧ v.conc ν = some c ∧ e.val = c ∧ e.born = born
def FindIs (P : Program) (ν : Nu) (w : World) (kt : TypeId) (kv : Value) (es : List (AV × AV × Nat)) (el : List MapEntry) : Option (Nat × AV × Nat) → Prop
  | none => (Instr.findKey kt kv el).run P w = .ok none w
  | some (i, v, born) => ∃ c, (Instr.findKey kt kv el).run P w = .ok (some (i, c)) w ∧ Found ν es el i v born c
omit hT in
theorem Ents.get {ν : Nu} : ∀ {a : List (AV × AV × Nat)} {b : List MapEntry}, Ents ν a b → ∀ (i : Nat) (x : AV × AV × Nat), a[i]? = some x → ∃ e, b[i]? = some e ∧ Ent ν x e
  | [], [], _, i, x, h => by simp at h
  | y :: a, e :: b, ⟨h1, h2⟩, i, x, h => by
    cases i with
    | zero => simp at h; subst h; exact ⟨e, by simp, h1⟩
    | succ i => simp at h; simpa using Ents.get h2 i x h
  | [], _ :: _, k, _, _, _ => k.elim
  | _ :: _, [], k, _, _, _ => k.elim
omit hT in
theorem findNow_ok {ν : Nu} {d : IntKind} {k : IntKind} {n : Int} {kt : TypeId} : ∀ {es : List (AV × AV × Nat)} {el : List MapEntry} {i : Nat} {o : Option (Nat × AV × Nat)}, findA P kt (.num k n) es i = some o → Ents ν es el →
    match o with
    | none => Instr.findNow (.int d) (.int k n) el i = some none
    | some (j, v, born) => ∃ c e kk, Instr.findNow (.int d) (.int k n) el i = some (some (j, c)) ∧ i ≤ j ∧ es[j - i]? = some (kk, v, born) ∧ el[j - i]? = some e ∧ v.conc ν = some c ∧ e.val = c ∧ e.born = born
  | [], [], i, o, h, _ => by cases h; rfl
  | (kk, v, born) :: es, e :: el, i, o, h, ⟨h1, h2⟩ => by
    unfold findA at h
    simp only at h
    split at h
    · rename_i kd' m
      split at h
      · rename_i hk
        subst hk
        have hkey := h1.key
        simp only at hkey
        have hkey := conc_int hkey
        split at h
        · rename_i hn
          subst hn
          cases h
          refine ⟨e.val, e, .int k n, ?_, Nat.le_refl _, by simp, by simp, h1.val, rfl, h1.born.symm⟩
          unfold Instr.findNow
          rw [hkey]
          simp [Instr.sameNow]
        · rename_i hn
          have ih := findNow_ok (d := d) h h2
          have e0 : Instr.findNow (.int d) (.int k n) (e :: el) i = Instr.findNow (.int d) (.int k n) el (i + 1) := by
            conv => lhs; unfold Instr.findNow
            rw [hkey]
            have hb : (n == m) = false := by simpa using hn
            simp [Instr.sameNow, hb]
          cases o with
          | none => simp only at ih ⊢; rw [e0]; exact ih
          | some p =>
            obtain ⟨j, v', born'⟩ := p
            simp only at ih ⊢
            obtain ⟨c, e', kk', a1, a2, a3, a4, a5⟩ := ih
            refine ⟨c, e', kk', by rw [e0]; exact a1, by omega, ?_, ?_, a5⟩
            · rw [show j - i = (j - (i + 1)) + 1 by omega]; simpa using a3
            · rw [show j - i = (j - (i + 1)) + 1 by omega]; simpa using a4
      · cases h
    · cases h
  | [], _ :: _, _, _, _, h => h.elim
  | _ :: _, [], _, _, _, h => h.elim
omit hT in
theorem findAsk_ok {ν : Nu} {w : World} {u : Value} {kt : TypeId} : ∀ {es : List (AV × AV × Nat)} {el : List MapEntry} {i : Nat} {o : Option (Nat × AV × Nat)}, findA P kt (.parts u) es i = some o → Ents ν es el →
    match o with
    | none => (Instr.findAsking kt u el i).run P w = .ok none w
    | some (j, v, born) => ∃ c e kk, (Instr.findAsking kt u el i).run P w = .ok (some (j, c)) w ∧ i ≤ j ∧ es[j - i]? = some (kk, v, born) ∧ el[j - i]? = some e ∧ v.conc ν = some c ∧ e.val = c ∧ e.born = born
  | [], [], i, o, h, _ => by cases h; rfl
  | (kk, v, born) :: es, e :: el, i, o, h, ⟨h1, h2⟩ => by
    unfold findA at h
    simp only at h
    split at h
    · rename_i ku hp
      have hkey := h1.key
      simp only at hkey
      have := plain_ok (ν := ν) hp
      rw [hkey] at this
      have hku : e.key = ku := by cases this; rfl
      split at h
      · rename_i hq
        cases h
        have hq := pureRun_ok (w := w) _ _ hq
        refine ⟨e.val, e, kk, ?_, Nat.le_refl _, by simp, by simp, h1.val, rfl, h1.born.symm⟩
        unfold Instr.findAsking
        simp only [Sem.run_bind, hku, hq, Result.andThen_ok]
        simp
      · rename_i hq
        have hq := pureRun_ok (w := w) _ _ hq
        have ih := findAsk_ok (w := w) h h2
        have e0 : (Instr.findAsking kt u (e :: el) i).run P w = (Instr.findAsking kt u el (i + 1)).run P w := by
          conv => lhs; unfold Instr.findAsking
          simp only [Sem.run_bind, hku, hq, Result.andThen_ok]
          simp
        cases o with
        | none => simp only at ih ⊢; rw [e0]; exact ih
        | some p =>
          obtain ⟨j, v', born'⟩ := p
          simp only at ih ⊢
          obtain ⟨c, e', kk', a1, a2, a3, a4, a5⟩ := ih
          refine ⟨c, e', kk', by rw [e0]; exact a1, by omega, ?_, ?_, a5⟩
          · rw [show j - i = (j - (i + 1)) + 1 by omega]; simpa using a3
          · rw [show j - i = (j - (i + 1)) + 1 by omega]; simpa using a4
      · cases h
    · cases h
  | [], _ :: _, _, _, _, h => h.elim
  | _ :: _, [], _, _, _, h => h.elim
/-- The key is one that may be, and the model finds what the machine finds. -/
theorem find_ok {kt : TypeId} {x : AV} {kv : Value} {kk : KeyKind} {es : List (AV × AV × Nat)} {el : List MapEntry} {o : Option (Nat × AV × Nat)} {empty : Bool} (hk : keyKind P T kt empty x = some kk) (hx : x.conc ν = some kv)
    (h : findA P kt kk es 0 = some o) (he : Ents ν es el) : (Instr.checkKey empty 10000 kt kv).run P w = .ok () w ∧ FindIs P ν w kt kv es el o := by
  unfold keyKind at hk
  split at hk
  · rename_i d k n hu
    cases hk
    obtain rfl := conc_int hx
    refine ⟨?_, ?_⟩
    · show (Instr.checkKey empty (9999 + 1) kt (.int k n)).run P w = .ok () w
      rw [Instr.checkKey]
      simp only [Sem.run_bind, run_und hT w hu, Result.andThen_ok]
      rfl
    · have := findNow_ok (P := P) (d := d) h he
      cases o with
      | none =>
        simp only at this
        simp only [FindIs, Instr.findKey, Sem.run_bind, run_und hT w hu, Result.andThen_ok, this]
        rfl
      | some p =>
        obtain ⟨j, v, born⟩ := p
        simp only at this
        obtain ⟨c, e, kk, a1, a2, a3, a4, a5⟩ := this
        refine ⟨c, ?_, kk, e, a3, a4, a5⟩
        simp only [Instr.findKey, Sem.run_bind, run_und hT w hu, Result.andThen_ok, a1]
        rfl
  · rename_i fs cs hu
    split at hk
    · rename_i v hv
      split at hk
      · rename_i hc
        cases hk
        have := plain_ok (ν := ν) hv
        rw [hx] at this; cases this
        refine ⟨pureRun_ok _ _ hc, ?_⟩
        have hn : ∀ (l : List MapEntry), Instr.findNow (.struct fs) kv l 0 = none ∨ l = [] := by
          intro l
          cases l with
          | nil => exact .inr rfl
          | cons e l => left; unfold Instr.findNow; simp [Instr.sameNow]
        rcases hn el with g | rfl
        · have := findAsk_ok (P := P) (w := w) h he
          cases o with
          | none =>
            simp only at this
            simp only [FindIs, Instr.findKey, Sem.run_bind, run_und hT w hu, Result.andThen_ok, g, this]
          | some p =>
            obtain ⟨j, v, born⟩ := p
            simp only at this
            obtain ⟨c, e, kk, a1, a2, a3, a4, a5⟩ := this
            refine ⟨c, ?_, kk, e, a3, a4, a5⟩
            simp only [Instr.findKey, Sem.run_bind, run_und hT w hu, Result.andThen_ok, g, a1]
        · cases es with
          | cons _ _ => exact he.elim
          | nil =>
            cases h
            simp only [FindIs, Instr.findKey, Sem.run_bind, run_und hT w hu, Result.andThen_ok, Instr.findNow]
            rfl
      · cases hk
    · cases hk
  · cases hk
def fLookup (P : Program) (T : Tr TypeInfo) (σ : St) (t : TypeId) (x ix : AV) (commaOk : Bool) : Option AV :=
  match undT T t with
  | some (.map kt e) =>
    match (match x with
      | .nmap => some []
      | .map b => match σ.heap.get b with | some (.map es _) => some es | _ => none
      | _ => none : Option (List (AV × AV × Nat))) with
    | some es => match keyKind P T kt es.isEmpty ix with
      | some kk => match findA P kt kk es 0 with
        | some (some (_, v, _)) => some (match commaOk with | true => .tup [v, .bool true] | false => v)
        | some none => match zeroT T e with
          | some z => match absV z with
            | some v => some (match commaOk with | true => .tup [v, .bool false] | false => v)
            | none => none
          | none => none
        | none => none
      | none => none
    | none => none
  | _ => none
theorem fLookup_ok (r : Rel base ν σ w) {t : TypeId} {x ix v : AV} {ok : Bool} {a i : Value} (h : fLookup P T σ t x ix ok = some v) (hx : x.conc ν = some a) (hi : ix.conc ν = some i) : VS P ν w (Instr.lookup t a i ok) v := by
  unfold fLookup at h
  split at h
  · rename_i kt e hu
    split at h
    · rename_i es hes
      have key : ∃ el : Array MapEntry, Ents ν es el.toList ∧ ((a = .map none ∧ el = #[]) ∨ ∃ k clk, a = .map (some k) ∧ (getObj k).run P w = .ok (.map el clk) w) := by
        split at hes
        · cases hes
          obtain rfl := conc_nmap hx
          exact ⟨#[], trivial, .inl ⟨rfl, rfl⟩⟩
        · rename_i b
          split at hes
          · rename_i es' clk hb
            cases hes
            obtain ⟨k, s, m, hν, rfl⟩ := conc_map hx
            obtain ⟨el, h1, h2⟩ := (r.mrow hb hν).out
            exact ⟨el, h2, .inr ⟨k, clk, rfl, by simp [getObj, Sem.run, h1]⟩⟩
          · cases hes
        · cases hes
      obtain ⟨el, he, hrun⟩ := key
      split at h
      · rename_i kk hk
        have hemp : es.isEmpty = el.isEmpty := by
          have := he.len
          rw [Bool.eq_iff_iff, List.isEmpty_iff_length_eq_zero, Array.isEmpty_iff_size_eq_zero, this]
          simp
        rw [hemp] at hk
        split at h
        · rename_i j v' born hf
          obtain ⟨c1, c2⟩ := find_ok (P := P) (w := w) hT hk hi hf he
          obtain ⟨c, f1, kx, ex, g1, g2, g3, g4⟩ := c2
          cases h
          cases ok
          · refine ⟨c, ?_, g3⟩
            rcases hrun with ⟨rfl, rfl⟩ | ⟨k, clk, rfl, hg⟩
            · simp only [Instr.lookup, Sem.run_bind, run_und hT w hu, Result.andThen_ok, Sem.run_pure, c1, f1]
              rfl
            · simp only [Instr.lookup, Sem.run_bind, run_und hT w hu, Result.andThen_ok, Sem.run_pure, hg, c1, f1]
              rfl
          · refine ⟨.tuple #[c, .bool true], ?_, conc_tup_mk (concL_mk g3 (concL_mk (bool_conc _ _) (concL_nil _)))⟩
            rcases hrun with ⟨rfl, rfl⟩ | ⟨k, clk, rfl, hg⟩
            · simp only [Instr.lookup, Sem.run_bind, run_und hT w hu, Result.andThen_ok, Sem.run_pure, c1, f1]
              rfl
            · simp only [Instr.lookup, Sem.run_bind, run_und hT w hu, Result.andThen_ok, Sem.run_pure, hg, c1, f1]
              rfl
        · rename_i hf
          obtain ⟨c1, c2⟩ := find_ok (P := P) (w := w) hT hk hi hf he
          split at h
          · rename_i z hz
            split at h
            · rename_i zv hzv
              cases h
              have hzc := absV_conc (ν := ν) hzv
              have c2 : (Instr.findKey kt i el.toList).run P w = .ok none w := c2
              cases ok
              · refine ⟨z, ?_, hzc⟩
                rcases hrun with ⟨rfl, rfl⟩ | ⟨k, clk, rfl, hg⟩
                · simp only [Instr.lookup, Sem.run_bind, run_und hT w hu, Result.andThen_ok, Sem.run_pure, c1, c2, run_zero hT w hz]
                  rfl
                · simp only [Instr.lookup, Sem.run_bind, run_und hT w hu, Result.andThen_ok, Sem.run_pure, hg, c1, c2, run_zero hT w hz]
                  rfl
              · refine ⟨.tuple #[z, .bool false], ?_, conc_tup_mk (concL_mk hzc (concL_mk (bool_conc _ _) (concL_nil _)))⟩
                rcases hrun with ⟨rfl, rfl⟩ | ⟨k, clk, rfl, hg⟩
                · simp only [Instr.lookup, Sem.run_bind, run_und hT w hu, Result.andThen_ok, Sem.run_pure, c1, c2, run_zero hT w hz]
                  rfl
                · simp only [Instr.lookup, Sem.run_bind, run_und hT w hu, Result.andThen_ok, Sem.run_pure, hg, c1, c2, run_zero hT w hz]
                  rfl
            · cases h
          · cases h
        · cases h
      · cases h
    · cases h
  · cases h
end
end Go.Proofs.YtdgjcjhicbgfaaaGreat
end

/- All of the machine's steps that write nothing. Conditions: none but those that the lemmas name. -/
section
set_option linter.unusedSimpArgs false
set_option linter.unusedVariables false
namespace Go.Proofs.YtdgjcjhicbgfaaaGreat
open Go.RowKit

def fUn (op : UnOp) (x : AV) : Option AV :=
  match op, x with
  | .not, .bool b => some (.bool (!b))
  | .neg, .int k n => some (.int k (wrapF k (0 - n)))
  | .xor, .int k n => some (.int k (k.wrap (BitVec.ofInt k.bits (if k.signed then -1 else k.max) ^^^ BitVec.ofInt k.bits n).toNat))
  | _, _ => none
def fNil (x : AV) : Option AV :=
  match x with
  | .ptr .. => some x
  | .iface .. => some x
  | .fn (.func _) _ _ => some x
  | _ => none
def fExt (x : AV) (i : Nat) : Option AV :=
  match x with
  | .tup vs => vs[i]?
  | _ => none
def fPick (c a b : Option AV) : Option AV :=
  match c with
  | some (.bool true) => a
  | some (.bool false) => b
  | _ => none
def fIface (T : Tr TypeInfo) (t : TypeId) (x : AV) : Option AV :=
  match undT T t with
  | some (.interface _) => none
  | some _ => some (.iface t x)
  | none => none
def fAssert (T : Tr TypeInfo) (x : AV) (asserted : TypeId) (ok : Bool) : Option AV :=
  match x, undT T asserted with
  | _, some (.interface _) => none
  | .iface t v, some _ => if t = asserted then some (match ok with | true => .tup [v, .bool true] | false => v) else none
  | _, _ => none
def fToArr (T : Tr TypeInfo) (arr : TypeId) (x : AV) : Option AV :=
  match undT T arr, sliceOf x with
  | some (.array n _), some (b, o, len) => match n with
    | 0 => none
    | _ + 1 => match Nat.ble n len with | true => some (.ptr b o) | false => none
  | _, _ => none
def fLen (T : Tr TypeInfo) (σ : St) (t : TypeId) (x : AV) : Option AV :=
  match undT T t, x with
  | some .string, .str s => some (.int .i64 s.length)
  | some .string, .txt b => match σ.heap.get b with
    | some (.txt n _) => some n
    | _ => none
  | some (.array n _), _ => some (.int .i64 n)
  | some (.slice _), .sl _ _ n _ => some (.int .i64 n)
  | some (.slice _), .slu _ _ _ n _ => some (.int .i64 n)
  | some (.slice _), .nsl => some (.int .i64 0)
  | some (.map _ _), .nmap => some (.int .i64 0)
  | some (.map _ _), .map b => match σ.heap.get b with
    | some (.map es _) => some (.int .i64 es.length)
    | _ => none
  | _, _ => none
def fCap (T : Tr TypeInfo) (t : TypeId) (x : AV) : Option AV :=
  match undT T t, x with
  | some (.slice _), .sl _ _ _ n => some (.int .i64 n)
  | some (.slice _), .nsl => some (.int .i64 0)
  | _, _ => none
def fMinMax (σ : St) (mx : Bool) (x y : AV) : Option AV :=
  match x, y with
  | .int k a, .int k' b => if k = k' then some (.int k (match mx with | true => if b > a then b else a | false => if b < a then b else a)) else none
  | _, _ => match bnd σ x, bnd σ y with
    | some (a, b), some (c, d) => if b < c then some (match mx with | true => y | false => x) else if d ≤ a then some (match mx with | true => x | false => y) else none
    | _, _ => none
section
variable {P : Program} {T : Tr TypeInfo} (hT : TOk P T) {base : Nat} {ν : Nu} {σ : St} {w : World}
theorem fUn_ok {op : UnOp} {x v : AV} {a : Value} (h : fUn op x = some v) (hx : x.conc ν = some a) : VS P ν w (Op.unary op a) v := by
  unfold fUn at h
  split at h <;> first | (cases h; done) | skip
  · cases h; obtain rfl := conc_bool hx; exact ⟨_, rfl, bool_conc _ _⟩
  · cases h; obtain rfl := conc_int hx; exact ⟨_, by simp [Op.unary, Op.intArith]; rfl, by rw [wrapF_eq, int_conc]; simp⟩
  · cases h; obtain rfl := conc_int hx; exact ⟨_, rfl, int_conc _ _ _⟩
include hT in
theorem fIface_ok {t : TypeId} {x v : AV} {a : Value} (h : fIface T t x = some v) (hx : x.conc ν = some a) : VS P ν w (Instr.makeInterface t a) v := by
  unfold fIface at h
  split at h <;> first | (cases h; done) | skip
  rename_i d hd hu
  cases h
  refine ⟨.iface t a, ?_, by unfold AV.conc; rw [hx]⟩
  simp only [Instr.makeInterface, Sem.run_bind, run_und hT w hu, Result.andThen_ok]
  rfl
include hT in
theorem fAssert_ok {x v : AV} {a : Value} {xt asserted : TypeId} {ok : Bool} (h : fAssert T x asserted ok = some v) (hx : x.conc ν = some a) : VS P ν w (Instr.typeAssert a xt asserted ok) v := by
  unfold fAssert at h
  split at h <;> first | (cases h; done) | skip
  rename_i t u d hd hu
  split at h
  · rename_i ht
    subst ht
    obtain ⟨c, hc, rfl⟩ := conc_iface hx
    cases h
    cases ok
    · refine ⟨c, ?_, hc⟩
      simp only [Instr.typeAssert, Sem.run_bind, run_und hT w hu, Result.andThen_ok]
      cases d <;> first | exact (hd _ rfl).elim | simp
    · refine ⟨.tuple #[c, .bool true], ?_, conc_tup_mk (concL_mk hc (concL_mk (bool_conc _ _) (concL_nil _)))⟩
      simp only [Instr.typeAssert, Sem.run_bind, run_und hT w hu, Result.andThen_ok]
      cases d <;> first | exact (hd _ rfl).elim | simp
  · cases h
include hT in
theorem fToArr_ok {arr : TypeId} {x v : AV} {a : Value} (h : fToArr T arr x = some v) (hx : x.conc ν = some a) : VS P ν w (Instr.arrayAt arr a) v := by
  unfold fToArr at h
  split at h <;> first | (cases h; done) | skip
  rename_i n e b o len hu hso
  obtain ⟨k, s, m, q, c, hν, rfl, hq⟩ := sliceOf_ok hso hx
  split at h
  · cases h
  · rename_i n
    split at h
    · rename_i hb
      cases h
      have hb := Nat.le_of_ble_eq_true hb
      obtain rfl := hq (by omega)
      refine ⟨.pointer (some ⟨k, s + q, none⟩), ?_, by unfold AV.conc; rw [hν]⟩
      simp only [Instr.arrayAt, Sem.run_bind, run_und hT w hu, Result.andThen_ok]
      rw [if_neg (by omega)]
      rfl
    · cases h
include hT in
theorem fLen_ok (r : Rel base ν σ w) {t ty : TypeId} {ats : Array TypeId} {x v : AV} {args : Array Value} {a : Value} (h : fLen T σ t x = some v) (hx : x.conc ν = some a) (ht : ats[0]? = some t) (ha : args[0]? = some a) : VS P ν w (Builtin.len_ ats ty args) v := by
  unfold fLen at h
  split at h <;> first | (cases h; done) | skip
  · rename_i s hu
    cases h
    obtain rfl := conc_str hx
    exact ⟨_, by simp only [Builtin.len_, ht, ha, Sem.run_bind, run_und hT w hu, Result.andThen_ok, Sem.run_pure]; rfl, by rw [int_conc, bytesOf_size]; rfl⟩
  · rename_i b hu
    split at h
    · rename_i n pv hb
      cases h
      obtain ⟨s, hν, rfl⟩ := conc_txt hx
      obtain ⟨e, he, hi⟩ := r.obj _ _ hb
      rw [hν] at he; cases he
      cases hi with
      | txt _ _ _ hh => exact ⟨_, by simp only [Builtin.len_, ht, ha, Sem.run_bind, run_und hT w hu, Result.andThen_ok, Sem.run_pure]; rfl, hh⟩
    · cases h
  · rename_i n e hu
    cases h
    exact ⟨_, by simp only [Builtin.len_, ht, ha, Sem.run_bind, run_und hT w hu, Result.andThen_ok, Sem.run_pure]; rfl, int_conc _ _ _⟩
  · rename_i hu
    cases h
    obtain ⟨k, s, m, hν, rfl⟩ := conc_sl hx
    exact ⟨_, by simp only [Builtin.len_, ht, ha, Sem.run_bind, run_und hT w hu, Result.andThen_ok, Sem.run_pure]; rfl, int_conc _ _ _⟩
  · rename_i hu
    cases h
    obtain ⟨k, s, m, hν, _, rfl⟩ := conc_slu hx
    exact ⟨_, by simp only [Builtin.len_, ht, ha, Sem.run_bind, run_und hT w hu, Result.andThen_ok, Sem.run_pure]; rfl, int_conc _ _ _⟩
  · rename_i hu
    cases h
    obtain rfl := conc_nsl hx
    exact ⟨_, by simp only [Builtin.len_, ht, ha, Sem.run_bind, run_und hT w hu, Result.andThen_ok, Sem.run_pure]; rfl, int_conc _ _ _⟩
  · rename_i hu
    cases h
    obtain rfl := conc_nmap hx
    exact ⟨_, by simp only [Builtin.len_, ht, ha, Sem.run_bind, run_und hT w hu, Result.andThen_ok, Sem.run_pure]; rfl, int_conc _ _ _⟩
  · rename_i b hu
    split at h
    · rename_i es clk hb
      cases h
      obtain ⟨k, s, m, hν, rfl⟩ := conc_map hx
      obtain ⟨el, h1, h2⟩ := (r.mrow hb hν).out
      have hl : el.size = es.length := by have := h2.len; simp [this]
      refine ⟨_, by simp only [Builtin.len_, ht, ha, Sem.run_bind, run_und hT w hu, Result.andThen_ok, Sem.run_pure]; simp [getObj, Sem.run, h1]; rfl, by rw [int_conc, hl]; rfl⟩
    · cases h
include hT in
theorem fCap_ok {t ty : TypeId} {ats : Array TypeId} {x v : AV} {args : Array Value} {a : Value} (h : fCap T t x = some v) (hx : x.conc ν = some a) (ht : ats[0]? = some t) (ha : args[0]? = some a) : VS P ν w (Builtin.cap_ ats ty args) v := by
  unfold fCap at h
  split at h <;> first | (cases h; done) | skip
  · rename_i hu
    cases h
    obtain ⟨k, s, m, hν, rfl⟩ := conc_sl hx
    exact ⟨_, by simp only [Builtin.cap_, ht, ha, Sem.run_bind, run_und hT w hu, Result.andThen_ok, Sem.run_pure]; rfl, int_conc _ _ _⟩
  · rename_i hu
    cases h
    obtain rfl := conc_nsl hx
    exact ⟨_, by simp only [Builtin.cap_, ht, ha, Sem.run_bind, run_und hT w hu, Result.andThen_ok, Sem.run_pure]; rfl, int_conc _ _ _⟩
theorem fMinMax_ok (r : Rel base ν σ w) {mx : Bool} {x y v : AV} {ats : Array TypeId} {ty : TypeId} {a b : Value} (h : fMinMax σ mx x y = some v) (hx : x.conc ν = some a) (hy : y.conc ν = some b) :
    VS P ν w (if mx then Builtin.max_ ats ty #[a, b] else Builtin.min_ ats ty #[a, b]) v := by
  unfold fMinMax at h
  have e1 : Builtin.max_ ats ty #[a, b] = (Builtin.max2 a b >>= fun s => pure s) := by simp only [Builtin.max_, List.foldlM_cons, List.foldlM_nil]
  have e2 : Builtin.min_ ats ty #[a, b] = (Builtin.min2 a b >>= fun s => pure s) := by simp only [Builtin.min_, List.foldlM_cons, List.foldlM_nil]
  split at h
  · split at h
    · rename_i k a' k' b' hk
      subst hk
      cases h
      obtain rfl := conc_int hx
      obtain rfl := conc_int hy
      cases mx
      · exact ⟨_, by rw [if_neg (by simp), e2]; simp only [Builtin.min2, Sem.run_bind, Sem.run_pure, Result.andThen_ok], int_conc _ _ _⟩
      · exact ⟨_, by rw [if_pos rfl, e1]; simp only [Builtin.max2, Sem.run_bind, Sem.run_pure, Result.andThen_ok], int_conc _ _ _⟩
    · cases h
  · split at h
    · rename_i lo1 hi1 lo2 hi2 h1 h2
      obtain ⟨z1, rfl, p1, p2⟩ := bnd_ok r h1 hx
      obtain ⟨z2, rfl, q1, q2⟩ := bnd_ok r h2 hy
      split at h
      · rename_i g
        cases h
        cases mx
        · exact ⟨_, by rw [if_neg (by simp), e2]; simp only [Builtin.min2, Sem.run_bind, Sem.run_pure, Result.andThen_ok]; rw [if_neg (by omega)], hx⟩
        · exact ⟨_, by rw [if_pos rfl, e1]; simp only [Builtin.max2, Sem.run_bind, Sem.run_pure, Result.andThen_ok]; rw [if_pos (by omega)], hy⟩
      · split at h
        · rename_i g1 g
          cases h
          cases mx
          · rw [if_neg (by simp), e2]
            by_cases e : z2 < z1
            · exact ⟨_, by simp only [Builtin.min2, Sem.run_bind, Sem.run_pure, Result.andThen_ok]; rw [if_pos e], hy⟩
            · have : z1 = z2 := by omega
              subst this
              exact ⟨_, by simp only [Builtin.min2, Sem.run_bind, Sem.run_pure, Result.andThen_ok]; rw [if_neg e], hy⟩
          · exact ⟨_, by rw [if_pos rfl, e1]; simp only [Builtin.max2, Sem.run_bind, Sem.run_pure, Result.andThen_ok]; rw [if_neg (by omega)], hx⟩
        · cases h
    · cases h
end

def fBuiltin (T : Tr TypeInfo) (σ : St) (b : Builtin) (ats : Array TypeId) (args : List AV) : Option AV :=
  match b, ats[0]?, args with
  | .len, some t, [x] => fLen T σ t x
  | .cap, some t, [x] => fCap T t x
  | .min, _, [x, y] => fMinMax σ false x y
  | .max, _, [x, y] => fMinMax σ true x y
  | _, _, _ => none
def fSliceZ (T : Tr TypeInfo) (t : TypeId) (x : AV) (lo hi mx : Option AV) : Option FR :=
  match undT T t, x with
  | some (.slice e), .slu _ _ _ 0 _ => match sizeT T e, slA 0 0 lo hi mx with
    | some _, some (0, 0, some 0) => some (.new .dead (.sl 0 0))
    | _, _ => none
  | _, _ => none
theorem fSliceZ_ok {P : Program} {T : Tr TypeInfo} (hT : TOk P T) {ν : Nu} {w : World} {t : TypeId} {x : AV} {lo hi mx : Option AV} {a : Value} {lo' hi' mx' : Option Value} {f : FR} (h : fSliceZ T t x lo hi mx = some f) (hx : x.conc ν = some a)
    (h1 : OptC ν lo lo') (h2 : OptC ν hi hi') (h3 : OptC ν mx mx') : FS P ν w (do pure (.value (← Instr.sliceAt t a lo' hi' mx'))) f := by
  unfold fSliceZ at h
  split at h <;> first | (cases h; done) | skip
  rename_i e b o o' d hu
  split at h <;> first | (cases h; done) | skip
  rename_i sz hs hb
  cases h
  obtain ⟨k, s, cap, hν, hcap, rfl⟩ := conc_slu hx
  obtain ⟨q, q1, q2, q3⟩ := slA_ok (P := P) (w := w) (cap := cap - d) true hb h1 h2 h3 (by omega) (Nat.le_refl _)
  simp only [Option.getD_some] at q
  refine ⟨.slice (some ⟨k, s + (if d < cap then o else o'), none⟩) 0 0, w, .loc k (s + (if d < cap then o else o')) 0, ?_, .refl w, ?_, .dead _, ?_⟩
  · simp only [Instr.sliceAt, Instr.slice, Sem.run_bind, run_und hT w hu, Result.andThen_ok, q, run_size hT w hs, Sem.run_pure]
    rfl
  · intro b' ν' _ hb'
    unfold NK.av AV.conc
    rw [hb']
    simp
  · intro k s c _ hp; cases hp
def oVal : Option AV → Option FR
  | some v => some (.val v)
  | none => none
def evO (ev : Ev) : Option Operand → Option (Option AV)
  | none => some none
  | some x => match ev x with | some a => some (some a) | none => none
def aMove (x : Operand) (_ : Program) (_ : Tr TypeInfo) (_ : St) (ev : Ev) : Option FR := oVal (ev x)
def aPick (c a b : Operand) (_ : Program) (_ : Tr TypeInfo) (_ : St) (ev : Ev) : Option FR := oVal (fPick (ev c) (ev a) (ev b))
def aAlloc (t : TypeId) (_ : Program) (T : Tr TypeInfo) (_ : St) (_ : Ev) : Option FR := match zeroL T t with | some z => some (.new (.cells z none) .ptr) | none => none
def aBox (x : Operand) (_ : Program) (_ : Tr TypeInfo) (_ : St) (ev : Ev) : Option FR := match ev x with | some v => some (.new (.cells (acells v) none) .ptr) | none => none
def aBuild (t : TypeId) (ps : Array (Nat × Operand)) (_ : Program) (T : Tr TypeInfo) (_ : St) (ev : Ev) : Option FR := oVal (fBuild T ev t ps.toList)
def aBuildSlice (t : TypeId) (n : Nat) (ps : Array (Nat × Operand)) (_ : Program) (T : Tr TypeInfo) (_ : St) (ev : Ev) : Option FR := fBuildSlice T ev t n ps.toList
def aLoad (t : TypeId) (a : Operand) (_ : Program) (T : Tr TypeInfo) (σ : St) (ev : Ev) : Option FR := match ev a with | some x => oVal (fLoad T σ t x) | none => none
def aNil (x : Operand) (_ : Program) (_ : Tr TypeInfo) (_ : St) (ev : Ev) : Option FR := match ev x with | some x => oVal (fNil x) | none => none
def aBin (op : BinOp) (t : TypeId) (x y : Operand) (P : Program) (T : Tr TypeInfo) (σ : St) (ev : Ev) : Option FR := match ev x, ev y with | some a, some b => fBin P T σ op t x y a b | _, _ => none
def aUn (op : UnOp) (x : Operand) (_ : Program) (_ : Tr TypeInfo) (_ : St) (ev : Ev) : Option FR := match ev x with | some x => oVal (fUn op x) | none => none
def aConv (s d : TypeId) (x : Operand) (_ : Program) (T : Tr TypeInfo) (σ : St) (ev : Ev) : Option FR := match ev x with | some x => fConv T σ s d x | none => none
def aToArr (t : TypeId) (x : Operand) (_ : Program) (T : Tr TypeInfo) (_ : St) (ev : Ev) : Option FR := match ev x with | some x => oVal (fToArr T t x) | none => none
def aIface (t : TypeId) (x : Operand) (_ : Program) (T : Tr TypeInfo) (_ : St) (ev : Ev) : Option FR := match ev x with | some x => oVal (fIface T t x) | none => none
def aFunc (fn : Fn) (a c : Array Operand) (_ : Program) (_ : Tr TypeInfo) (_ : St) (ev : Ev) : Option FR := match evL ev a.toList, evL ev c.toList with | some a, some c => some (.val (.fn fn a c)) | _, _ => none
def aMap (r : Option Operand) (_ : Program) (_ : Tr TypeInfo) (_ : St) (_ : Ev) : Option FR := match r with | none => some (.new (.map [] 0) .map) | some _ => none
def aSlice (t : TypeId) (x : Operand) (lo hi mx : Option Operand) (_ : Program) (T : Tr TypeInfo) (σ : St) (ev : Ev) : Option FR := match ev x, evO ev lo, evO ev hi, evO ev mx with
  | some x, some lo, some hi, some mx => match fSlice T σ t x lo hi mx with
    | some v => some (.val v)
    | none => fSliceZ T t x lo hi mx
  | _, _, _, _ => none
def aFieldAddr (t : TypeId) (x : Operand) (i : Nat) (_ : Program) (T : Tr TypeInfo) (_ : St) (ev : Ev) : Option FR := match ev x with | some x => oVal (fFieldAddr T t x i) | none => none
def aField (t : TypeId) (x : Operand) (i : Nat) (_ : Program) (T : Tr TypeInfo) (_ : St) (ev : Ev) : Option FR := match ev x with | some x => oVal (fField T t x i) | none => none
def aIndexAddr (t : TypeId) (x i : Operand) (_ : Program) (T : Tr TypeInfo) (_ : St) (ev : Ev) : Option FR := match ev x, ev i with | some x, some i => oVal (fIndexAddr T t x i) | _, _ => none
def aIndex (t : TypeId) (x i : Operand) (_ : Program) (T : Tr TypeInfo) (_ : St) (ev : Ev) : Option FR := match ev x, ev i with | some x, some i => oVal (fIndex T t x i) | _, _ => none
def aLookup (t : TypeId) (x i : Operand) (ok : Bool) (P : Program) (T : Tr TypeInfo) (σ : St) (ev : Ev) : Option FR := match ev x, ev i with | some x, some i => oVal (fLookup P T σ t x i ok) | _, _ => none
def aAssert (x : Operand) (t : TypeId) (ok : Bool) (_ : Program) (T : Tr TypeInfo) (_ : St) (ev : Ev) : Option FR := match ev x with | some x => oVal (fAssert T x t ok) | none => none
def aExt (x : Operand) (i : Nat) (_ : Program) (_ : Tr TypeInfo) (_ : St) (ev : Ev) : Option FR := match ev x with | some x => oVal (fExt x i) | none => none
def aCall (c : Call) (_ : Program) (T : Tr TypeInfo) (σ : St) (ev : Ev) : Option FR := match c.callee with
  | .builtin b => match evL ev c.args.toList with | some l => oVal (fBuiltin T σ b c.argTypes l) | none => none
  | _ => none
def aNo (_ : Program) (_ : Tr TypeInfo) (_ : St) (_ : Ev) : Option FR := none
/-- A step that writes nothing. (Each arm is closed: the kernel need not go through the others.) -/
def fop (P : Program) (T : Tr TypeInfo) (σ : St) (ev : Ev) (o : Op) : Option FR :=
  (match o with
  | .move x => aMove x
  | .assign x => aMove x
  | .pick c a b => aPick c a b
  | .alloc t => aAlloc t
  | .box _ x => aBox x
  | .build t ps => aBuild t ps
  | .buildSlice t n ps => aBuildSlice t n ps
  | .load t a => aLoad t a
  | .nilCheck x => aNil x
  | .binOp op t x y _ => aBin op t x y
  | .unOp op _ x => aUn op x
  | .convert s d x => aConv s d x
  | .sliceToArrayPointer t x => aToArr t x
  | .makeInterface t x => aIface t x
  | .makeFunc fn a c => aFunc fn a c
  | .makeMap _ r => aMap r
  | .slice t x lo hi mx => aSlice t x lo hi mx
  | .fieldAddr t x i => aFieldAddr t x i
  | .field t x i => aField t x i
  | .indexAddr t x i => aIndexAddr t x i
  | .index t x i => aIndex t x i
  | .lookup t x i ok => aLookup t x i ok
  | .typeAssert x _ t ok => aAssert x t ok
  | .extract x i => aExt x i
  | .call c => aCall c
  | _ => aNo : Program → Tr TypeInfo → St → Ev → Option FR) P T σ ev
theorem evO_ok {ν : Nu} {ev : Ev} {ρ : Operand → Value} (he : EvOk ν ev ρ) {x : Option Operand} {a : Option AV} (h : evO ev x = some a) : OptC ν a (x.map ρ) := by
  unfold evO at h
  split at h
  · cases h; trivial
  · split at h
    · cases h; exact he _ _ ‹_›
    · cases h
theorem oVal_ok {x : Option AV} {f : FR} (h : oVal x = some f) : ∃ v, x = some v ∧ f = .val v := by
  unfold oVal at h
  split at h <;> cases h
  exact ⟨_, rfl, rfl⟩
section
variable {P : Program} {T : Tr TypeInfo} (hT : TOk P T) {base : Nat} {ν : Nu} {σ : St} {w : World}
include hT
theorem fBuiltin_ok (r : Rel base ν σ w) {b : Builtin} {ats : Array TypeId} {ty : TypeId} {consts : Array Bool} {args : List AV} {vs : List Value} {v : AV} (h : fBuiltin T σ b ats args = some v) (ha : AV.concL ν args = some vs) :
    FS P ν w (builtin b ats ty consts vs.toArray) (.val v) := by
  unfold fBuiltin at h
  split at h <;> first | (cases h; done) | skip
  · rename_i t x ht
    obtain ⟨a, l, h1, h2, rfl⟩ := concL_cons ha
    exact VS.fs (fLen_ok hT r h h1 ht (by simp))
  · rename_i t x ht
    obtain ⟨a, l, h1, h2, rfl⟩ := concL_cons ha
    exact VS.fs (fCap_ok hT h h1 ht (by simp))
  · obtain ⟨a, l, h1, h2, rfl⟩ := concL_cons ha
    obtain ⟨a', l, h3, h4, rfl⟩ := concL_cons h2
    rw [concL_nil] at h4; cases h4
    exact VS.fs (by have := fMinMax_ok (P := P) (w := w) (ats := ats) (ty := ty) r h h1 h3; simpa using this)
  · obtain ⟨a, l, h1, h2, rfl⟩ := concL_cons ha
    obtain ⟨a', l, h3, h4, rfl⟩ := concL_cons h2
    rw [concL_nil] at h4; cases h4
    exact VS.fs (by have := fMinMax_ok (P := P) (w := w) (ats := ats) (ty := ty) r h h1 h3; simpa using this)
theorem fop_ok (r : Rel base ν σ w) {ev : Ev} {ρ : Operand → Value} (he : EvOk ν ev ρ) {o : Oper} {f : FR} (h : fop P T σ ev o.op = some f) : FS P ν w (execOp ρ o) f := by
  obtain ⟨dst, op, type, pos, after, guard⟩ := o
  simp only at h
  unfold fop at h
  unfold execOp
  simp only
  split at h <;> simp only [aMove, aPick, aAlloc, aBox, aBuild, aBuildSlice, aLoad, aNil, aBin, aUn, aConv, aToArr, aIface, aFunc, aMap, aSlice, aFieldAddr, aField, aIndexAddr, aIndex, aLookup, aAssert, aExt, aCall, aNo] at h <;> first | (cases h; done) | skip
  · obtain ⟨v, hv, rfl⟩ := oVal_ok h
    exact ⟨_, rfl, he _ _ hv⟩
  · obtain ⟨v, hv, rfl⟩ := oVal_ok h
    exact ⟨_, rfl, he _ _ hv⟩
  · rename_i c a b
    obtain ⟨v, hv, rfl⟩ := oVal_ok h
    unfold fPick at hv
    split at hv <;> first | (cases hv; done) | skip
    · rename_i hc
      have hc := conc_bool (he _ _ hc)
      exact ⟨_, by show Sem.run P (asBool (ρ c) >>= fun t => pure (Next.value (if t = true then ρ a else ρ b))) w = _; rw [hc]; rfl, he _ _ hv⟩
    · rename_i hc
      have hc := conc_bool (he _ _ hc)
      exact ⟨_, by show Sem.run P (asBool (ρ c) >>= fun t => pure (Next.value (if t = true then ρ a else ρ b))) w = _; rw [hc]; rfl, he _ _ hv⟩
  · rename_i t
    split at h
    · rename_i z hz
      cases h
      obtain ⟨zv, h1, h2⟩ := zeroL_ok (P := P) (w := w) (ν := ν) hT hz
      refine ⟨.pointer (some ⟨w.heap.size, 0, none⟩), _, .loc w.heap.size 0 0, ?_, .push w (.cells zv.cells t), ?_, new_row t h2, ?_⟩
      · simp [Instr.alloc, h1, newVar, newRow]
      · intro b ν' _ hb; unfold NK.av AV.conc; rw [hb]
      · intro k s c hh _; cases hh; exact Nat.le_refl _
    · cases h
  · rename_i t x
    split at h
    · rename_i v hv
      cases h
      have := acells_ok (he _ _ hv)
      refine ⟨.pointer (some ⟨w.heap.size, 0, none⟩), _, .loc w.heap.size 0 0, ?_, .push w (.cells (ρ x).cells t), ?_, new_row t this, ?_⟩
      · simp [Instr.box, newVar, newRow]
      · intro b ν' _ hb; unfold NK.av AV.conc; rw [hb]
      · intro k s c hh _; cases hh; exact Nat.le_refl _
    · cases h
  · obtain ⟨v, hv, rfl⟩ := oVal_ok h
    exact VS.fs (fBuild_ok hT he hv)
  · exact fBuildSlice_ok hT he h
  · split at h
    · rename_i x hx
      obtain ⟨v, hv, rfl⟩ := oVal_ok h
      exact VS.fs (fLoad_ok hT r hv (he _ _ hx))
    · cases h
  · split at h
    · rename_i x hx
      obtain ⟨v, hv, rfl⟩ := oVal_ok h
      have hc := he _ _ hx
      unfold fNil at hv
      split at hv <;> first | (cases hv; done) | skip
      · cases hv
        obtain ⟨k, s, n, hb, e⟩ := conc_ptr hc
        rw [e] at hc
        dsimp only
        rw [e]
        exact ⟨_, rfl, hc⟩
      · cases hv
        obtain ⟨c, hb, e⟩ := conc_iface hc
        rw [e] at hc
        dsimp only
        rw [e]
        exact ⟨_, rfl, hc⟩
      · cases hv
        obtain ⟨c, d, _, _, e⟩ := conc_fn hc
        rw [e] at hc
        dsimp only
        rw [e]
        exact ⟨_, rfl, hc⟩
    · cases h
  · split at h
    · rename_i a b ha hb
      exact fBin_ok hT r h (he _ _ ha) (he _ _ hb)
    · cases h
  · split at h
    · rename_i x hx
      obtain ⟨v, hv, rfl⟩ := oVal_ok h
      exact VS.fs (fUn_ok hv (he _ _ hx))
    · cases h
  · split at h
    · rename_i x hx
      exact fConv_ok hT r h (he _ _ hx)
    · cases h
  · split at h
    · rename_i x hx
      obtain ⟨v, hv, rfl⟩ := oVal_ok h
      exact VS.fs (fToArr_ok hT hv (he _ _ hx))
    · cases h
  · split at h
    · rename_i x hx
      obtain ⟨v, hv, rfl⟩ := oVal_ok h
      exact VS.fs (fIface_ok hT hv (he _ _ hx))
    · cases h
  · split at h
    · rename_i a c ha hc
      cases h
      have h1 := evL_ok he ha
      have h2 := evL_ok he hc
      refine ⟨_, rfl, ?_⟩
      unfold AV.conc
      rw [h1, h2]
      dsimp only
      rw [← Array.toList_map, ← Array.toList_map]
    · cases h
  · split at h <;> first | (cases h; done) | skip
    cases h
    refine ⟨.map (some w.heap.size), _, .loc w.heap.size 0 0, by simp [Instr.makeMap, newObj, Sem.run], .push w (.map #[] 0), ?_, .map _ _ _ _ _ ⟨#[], by simp, trivial⟩, ?_⟩
    · intro b ν' _ hb; unfold NK.av AV.conc; rw [hb]
    · intro k s c hh _; cases hh; exact Nat.le_refl _
  · split at h
    · rename_i x lo hi mx hx h1 h2 h3
      split at h
      · rename_i v hv
        cases h
        exact VS.fs (fSlice_ok hT r hv (he _ _ hx) (evO_ok he h1) (evO_ok he h2) (evO_ok he h3))
      · exact fSliceZ_ok hT h (he _ _ hx) (evO_ok he h1) (evO_ok he h2) (evO_ok he h3)
    · cases h
  · split at h
    · rename_i x hx
      obtain ⟨v, hv, rfl⟩ := oVal_ok h
      exact VS.fs (fFieldAddr_ok hT hv (he _ _ hx))
    · cases h
  · split at h
    · rename_i x hx
      obtain ⟨v, hv, rfl⟩ := oVal_ok h
      exact VS.fs (fField_ok hT hv (he _ _ hx))
    · cases h
  · split at h
    · rename_i x i hx hi
      obtain ⟨v, hv, rfl⟩ := oVal_ok h
      exact VS.fs (fIndexAddr_ok hT hv (he _ _ hx) (he _ _ hi))
    · cases h
  · split at h
    · rename_i x i hx hi
      obtain ⟨v, hv, rfl⟩ := oVal_ok h
      exact VS.fs (fIndex_ok hT hv (he _ _ hx) (he _ _ hi))
    · cases h
  · split at h
    · rename_i x i hx hi
      obtain ⟨v, hv, rfl⟩ := oVal_ok h
      exact VS.fs (fLookup_ok hT r hv (he _ _ hx) (he _ _ hi))
    · cases h
  · split at h
    · rename_i x hx
      obtain ⟨v, hv, rfl⟩ := oVal_ok h
      exact VS.fs (fAssert_ok hT hv (he _ _ hx))
    · cases h
  · split at h
    · rename_i x hx
      obtain ⟨v, hv, rfl⟩ := oVal_ok h
      have hc := he _ _ hx
      unfold fExt at hv
      split at hv <;> first | (cases hv; done) | skip
      obtain ⟨l, hl, e⟩ := conc_tup hc
      dsimp only
      rw [e]
      obtain ⟨y, hy, hc'⟩ := concL_get hl _ _ hv
      exact VS.fs ⟨y, by simp [Instr.extract, hy], hc'⟩
    · cases h
  · rename_i c
    split at h
    · rename_i b hcal
      split at h
      · rename_i l hl
        obtain ⟨v, hv, rfl⟩ := oVal_ok h
        have := evL_ok he hl
        have hf := fBuiltin_ok (ty := type) (consts := (c.args.map fun | .const _ => true | _ => false)) hT r hv this
        obtain ⟨y, h1, h2⟩ := hf
        refine ⟨y, ?_, h2⟩
        have e : (c.args.toList.map ρ).toArray = c.args.map ρ := by rw [← Array.toList_map]
        rw [e] at h1
        show Sem.run P (resolve ρ c type >>= fun d => invoke d.target d.args) w = _
        simp only [resolve, hcal, Sem.run_bind, Sem.run_pure, Result.andThen_ok, invoke]
        exact h1
      · cases h
    · cases h
end
end Go.Proofs.YtdgjcjhicbgfaaaGreat
end

/- The machine's stores and appends: each does what the model's does. Conditions: none but those that the lemmas name. -/
section
set_option linter.unusedSimpArgs false
set_option linter.unusedVariables false
namespace Go.Proofs.YtdgjcjhicbgfaaaGreat
open Go.RowKit

/-- What a step that writes must do. -/
def ES (P : Program) (base : Nat) (ν : Nu) (σ : St) (w : World) (s : Sem Next) (v : AV) (σ' : St) : Prop :=
  ∃ n c ν' w', s.run P w = .ok n w' ∧ (n = .value c ∨ (n = .skip ∧ c = undef)) ∧ v.conc ν' = some c ∧ Rel base ν' σ' w' ∧ Run ν σ w ν' σ' w'

def oneA : AV → Bool
  | .agg _ => false
  | .tup _ => false
  | _ => true
theorem oneA_ok {ν : Nu} {v : AV} {c : Value} (h : oneA v = true) (hc : v.conc ν = some c) : c.oneCell' = true := by
  cases v with
  | agg | tup => cases h
  | _ =>
    unfold AV.conc at hc
    first
    | (cases hc; rfl)
    | (split at hc <;> first | (cases hc; done) | (cases hc; rfl) | (split at hc <;> first | (cases hc; done) | (cases hc; rfl)))
def allOne : List AV → Bool
  | [] => true
  | v :: r => match oneA v with | true => allOne r | false => false
theorem allOne_ok {ν : Nu} : ∀ {l : List AV} {vs : List Value}, allOne l = true → AV.concL ν l = some vs → ∀ v ∈ vs, v.oneCell' = true
  | [], vs, _, hc, v, hv => by rw [concL_nil] at hc; cases hc; simp at hv
  | a :: r, vs, h, hc, v, hv => by
    obtain ⟨x, y, hx, hy, rfl⟩ := concL_cons hc
    unfold allOne at h
    split at h
    · rename_i ho
      rcases List.mem_cons.1 hv with rfl | hm
      · exact oneA_ok ho hx
      · exact allOne_ok h hy v hm
    · cases h
/-- The row k with other cells. -/
structure Wrote (w w' : World) (k : Nat) (cs : Array Value) (el : TypeId) (fr : Nat × Nat) : Prop where
  row : w'.heap[k]? = some (.cells cs el fr)
  far : ∀ j, j ≠ k → w'.heap[j]? = w.heap[j]?
  size : w'.heap.size = w.heap.size
  os : w'.os = w.os
  tape : w'.tape = w.tape
  output : w'.output = w.output
theorem store_cells {P : Program} {k : Nat} {el : TypeId} {fr : Nat × Nat} (o : Nat) : ∀ (vs : List Value) (i : Nat) (w : World) (cs : Array Value), w.heap[k]? = some (.cells cs el fr) → o + i + vs.length ≤ cs.size →
    (∀ j, o + i ≤ j → j < o + i + vs.length → ¬ (fr.1 ≤ j ∧ j < fr.2)) → (∀ v ∈ vs, v.oneCell' = true) →
    ∃ w' cs', (storeCells ⟨k, o, none⟩ vs i).run P w = .ok () w' ∧ Wrote w w' k cs' el fr ∧ cs'.size = cs.size ∧ (∀ j, cs'[j]? = if o + i ≤ j ∧ j < o + i + vs.length then vs[j - (o + i)]? else cs[j]?)
  | [], i, w, cs, hr, _, _, _ => ⟨w, cs, rfl, ⟨hr, fun _ _ => rfl, rfl, rfl, rfl, rfl⟩, rfl, fun j => by rw [if_neg (fun hh => by simp only [List.length_nil] at hh; omega)]⟩
  | v :: vs, i, w, cs, hr, hl, hf, ho => by
    simp only [List.length_cons] at hl hf
    have hv := ho v (by simp)
    have hlt : o + i < cs.size := by omega
    have hcell : w.cell? ⟨k, o + i, none⟩ = some cs[o + i] := by simp [World.cell?, hr, hlt]
    have hfr : w.frozen? ⟨k, o + i, none⟩ = false := by
      have := hf (o + i) (by omega) (by omega)
      simp only [World.frozen?, hr]
      simpa using this
    have hst : (store (⟨k, o + i, none⟩ : Addr) v).run P w = .ok () (w.setCell ⟨k, o + i, none⟩ v) := by
      rw [run_store P w _ _ _ hv, hcell]
      simp [hfr]
    have hrow : (w.setCell ⟨k, o + i, none⟩ v).heap[k]? = some (.cells (cs.setIfInBounds (o + i) v) el fr) := by
      simp [World.setCell, Array.getElem?_modify, hr]
    obtain ⟨w', cs', h1, h2, h3, h4⟩ := store_cells (P := P) o vs (i + 1) (w.setCell ⟨k, o + i, none⟩ v) (cs.setIfInBounds (o + i) v) hrow (by simp; omega) (fun j a b => hf j (by omega) (by omega)) (fun x hx => ho x (by simp [hx]))
    refine ⟨w', cs', ?_, ⟨h2.row, fun j hj => (h2.far j hj).trans (Below.heap_setCell w _ _ j hj), h2.size.trans (by simp [World.setCell]), h2.os, h2.tape, h2.output⟩, by rw [h3]; simp, ?_⟩
    · simp only [storeCells, addr_add, Sem.run_bind, hst, Result.andThen_ok]
      exact h1
    · intro j
      rw [h4 j]
      simp only [List.length_cons]
      by_cases e1 : o + (i + 1) ≤ j ∧ j < o + (i + 1) + vs.length
      · rw [if_pos e1, if_pos (by omega)]
        have : j - (o + i) = (j - (o + (i + 1))) + 1 := by omega
        rw [this, List.getElem?_cons_succ]
      · rw [if_neg e1]
        by_cases e2 : j = o + i
        · subst e2
          rw [if_pos (by omega)]
          simp [hlt]
        · rw [if_neg (by omega)]
          rw [Array.getElem?_setIfInBounds_ne (by omega)]
theorem splice_get (c vs : List AV) (o i : Nat) (h : o + vs.length ≤ c.length) : (splice c o vs)[i]? = if o ≤ i ∧ i < o + vs.length then vs[i - o]? else c[i]? := by
  unfold splice
  by_cases h1 : i < o
  · rw [List.getElem?_append_left (by simp; omega), if_neg (by omega), List.getElem?_take, if_pos h1]
  · rw [List.getElem?_append_right (by simp; omega)]
    have hl : (c.take o).length = o := by simp; omega
    rw [hl]
    by_cases h2 : i < o + vs.length
    · rw [if_pos (by omega), List.getElem?_append_left (by omega)]
    · rw [if_neg (by omega), List.getElem?_append_right (by omega), List.getElem?_drop]
      congr 1
      omega
theorem splice_len (c vs : List AV) (o : Nat) (h : o + vs.length ≤ c.length) : (splice c o vs).length = c.length := by
  unfold splice
  simp; omega
/-- A row that is written in. -/
theorem Row.write {ν : Nu} {w w' : World} {c l : List AV} {room : Option Nat} {k sh cap o : Nat} {vs : List Value} {cs cs' : Array Value} {el : TypeId} {fr : Nat × Nat} (r : Row ν w c room k sh cap) (hr : w.heap[k]? = some (.cells cs el fr))
    (hw : Wrote w w' k cs' el fr) (hs : cs'.size = cs.size) (hg : ∀ j, cs'[j]? = if sh + o + 0 ≤ j ∧ j < sh + o + 0 + vs.length then vs[j - (sh + o + 0)]? else cs[j]?) (hl : AV.concL ν l = some vs) (ho : o + l.length ≤ c.length) :
    Row ν w' (splice c o l) room k sh cap := by
  obtain ⟨cs0, el0, fr0, h1, h2, h3, h4, h5⟩ := r.out
  rw [hr] at h1; cases h1
  have hlen := concL_len hl
  refine ⟨cs', el, fr, hw.row, by rw [splice_len _ _ _ ho]; omega, ?_, by rw [hs]; exact h4, by rw [hs, splice_len _ _ _ ho]; exact h5⟩
  intro i v hv
  rw [splice_get _ _ _ _ ho] at hv
  split at hv
  · rename_i hi
    obtain ⟨x, hx, hc⟩ := concL_get hl _ _ hv
    refine ⟨x, ?_, hc⟩
    rw [hg, if_pos (by omega)]
    rw [show sh + i - (sh + o + 0) = i - o by omega]
    exact hx
  · rename_i hi
    obtain ⟨u, hu, hc⟩ := h3 i v hv
    refine ⟨u, ?_, hc⟩
    rw [hg, if_neg (by omega)]
    exact hu

def eStore (T : Tr TypeInfo) (σ : St) (t : TypeId) (a x : AV) : Option St :=
  match a with
  | .ptr b o => match σ.heap.get b with
    | some (.cells c room) => match sizeT T t, allOne (acells x), Nat.ble (o + (acells x).length) c.length with
      | some n, true, true => match Nat.beq (acells x).length n with
        | true => some ⟨σ.heap.set b (.cells (splice c o (acells x)) room), σ.next⟩
        | false => none
      | _, _, _ => none
    | _ => none
  | _ => none
theorem eStore_ok {P : Program} {T : Tr TypeInfo} (hT : TOk P T) {base : Nat} {ν : Nu} {σ σ' : St} {w : World} (r : Rel base ν σ w) {t : TypeId} {a x : AV} {av xv : Value} (h : eStore T σ t a x = some σ') (ha : a.conc ν = some av) (hx : x.conc ν = some xv) :
    ∃ w', (Instr.storeAt t av xv).run P w = .ok () w' ∧ Rel base ν σ' w' ∧ Run ν σ w ν σ' w' := by
  unfold eStore at h
  split at h <;> first | (cases h; done) | skip
  rename_i b o
  split at h <;> first | (cases h; done) | skip
  rename_i c room hb
  split at h <;> first | (cases h; done) | skip
  rename_i n hn hone hle
  split at h <;> first | (cases h; done) | skip
  rename_i heq
  cases h
  have hle := Nat.le_of_ble_eq_true hle
  have heq := Nat.eq_of_beq_eq_true heq
  obtain ⟨k, s, m, hν, rfl⟩ := conc_ptr ha
  have hr := r.row hb hν
  obtain ⟨cs, el, fr, h1, h2, h3, h4, h5⟩ := hr.out
  have hac := acells_ok hx
  have hlen := concL_len hac
  obtain ⟨w', cs', g1, g2, g3, g4⟩ := store_cells (P := P) (s + o) xv.cells.toList 0 w cs h1 (by omega) (fun j p q => h4 j (by omega) (by omega)) (allOne_ok hone hac)
  refine ⟨w', ?_, r.turn hb rfl hν (by rw [g2.size]; exact Nat.le_refl _) g2.far (.cells _ _ _ _ _ (hr.write h1 g2 g3 g4 hac hle)), Run.turn hb rfl hν g2.os g2.tape g2.output (by rw [g2.size]; exact Nat.le_refl _) g2.far⟩
  simp only [Instr.storeAt, Instr.sureAddr, Sem.run_bind, Sem.run_pure, Result.andThen_ok, storeVar, run_size hT w hn]
  rw [if_neg (by simp at hlen; simp; omega)]
  exact g1

/-! ### Appends -/
theorem run_append_fresh {P : Program} {w : World} {ats : Array TypeId} {ty t u e : TypeId} {d : TypeDesc} {i : TypeInfo} {z : Value} {base : Option Addr} {sLen sCap n : Nat} {x : Value} {olds news : Array Value} {args : Array Value}
    (h0 : ats[0]? = some t) (h1 : ats[1]? = some u) (ht : P.underlying t = some (.slice e)) (hu : P.underlying u = some d) (hd : ∀ k, d ≠ .int k) (hi : P.info? e = some i) (hz : i.zero = some z)
    (a0 : args[0]? = some (.slice base sLen sCap)) (a1 : args[1]? = some x) (hn : ∀ w', (Builtin.lenOf x).run P w' = .ok n w')
    (ho : ∀ w', w'.heap = w.heap → (Builtin.firstCells i.size sLen (.slice base sLen sCap)).run P w' = .ok olds w') (hw : ∀ w', w'.heap = w.heap → (Builtin.firstCells i.size n x).run P w' = .ok news w')
    (hg : sCap < sLen + n) (h63 : ((sLen + n : Nat) : Int) ≤ 9223372036854775807) (hfit : Builtin.nextslicecap (sLen + n) sCap * i.bytes ≤ 281474976710656) :
    ∃ cap, sLen + n ≤ cap ∧ (Builtin.append_ ats ty args).run P w = .ok (.slice (some ⟨w.heap.size, 0, none⟩) (sLen + n) cap)
      { w with drawn := w.drawn + 1, heap := w.heap.push (.cells (olds ++ news ++ Builtin.zeroCells z.cells (cap - (sLen + n))) e) } := by
  refine ⟨(Question.appendCap (sLen + n) sCap e).cut (w.tape w.drawn (.appendCap (sLen + n) sCap e)), by show _ ≤ (sLen + n) + _; omega, ?_⟩
  have hI : (typeInfo e).run P = fun w => .ok i w := by funext w; simp [typeInfo, hi]
  have hS : (sizeOf e).run P = fun w => .ok i.size w := by funext w; simp [sizeOf, hI]
  have hZ : (zeroValue e).run P = fun w => .ok z w := by funext w; simp [zeroValue, hI, hz]
  have hU : (underlying t).run P = fun w => .ok (.slice e) w := by funext w; simp [underlying, ht]
  have hV : (underlying u).run P = fun w => .ok d w := by funext w; simp [underlying, hu]
  have hmax : IntKind.i64.max = 9223372036854775807 := rfl
  cases d
  case int k => exact (hd _ rfl).elim
  all_goals
    simp only [Builtin.append_, h0, a0, a1, h1, Sem.run_bind, hU, Result.andThen_ok, hS, hV, Sem.run_pure]
    simp only [Bool.false_eq_true, if_false, Sem.run_bind, hn, false_or, Result.andThen_ok, Bool.not_false, if_true]
    rw [if_neg (by omega)]
    simp only [Sem.run_bind, hI, Result.andThen_ok, hmax]
    rw [if_neg (fun hh => by omega)]
    simp only [pure_bind, Sem.run_bind, hI, Result.andThen_ok]
    rw [if_neg (by simp only [gt_iff_lt]; omega)]
    simp only [pure_bind, Sem.run_bind, run_choose, Question.forced, Bool.false_eq_true, if_false, Result.andThen_ok, hI, run_askRoom, Bool.not_false, if_true]
    rw [ho { w with drawn := w.drawn + 1 } rfl]
    simp only [Result.andThen_ok]
    rw [hw { w with drawn := w.drawn + 1 } rfl]
    simp only [Result.andThen_ok, hZ, newRow, Sem.run_bind, run_newObj, Sem.run_pure]
theorem run_append_place {P : Program} {w w' : World} {ats : Array TypeId} {ty t u e : TypeId} {d : TypeDesc} {i : TypeInfo} {base : Option Addr} {sLen sCap n : Nat} {x : Value} {news : Array Value} {args : Array Value}
    (h0 : ats[0]? = some t) (h1 : ats[1]? = some u) (ht : P.underlying t = some (.slice e)) (hu : P.underlying u = some d) (hd : ∀ k, d ≠ .int k) (hi : P.info? e = some i)
    (a0 : args[0]? = some (.slice base sLen sCap)) (a1 : args[1]? = some x) (hn : ∀ w', (Builtin.lenOf x).run P w' = .ok n w')
    (hw : (Builtin.firstCells i.size n x).run P w = .ok news w)
    (hg : sLen + n ≤ sCap) (hst : (match base with | some a => storeCells (a.add (sLen * i.size)) news.toList | none => pure () : Sem Unit).run P w = .ok () w') :
    (Builtin.append_ ats ty args).run P w = .ok (.slice base (sLen + n) sCap) w' := by
  have hI : (typeInfo e).run P = fun w => .ok i w := by funext w; simp [typeInfo, hi]
  have hS : (sizeOf e).run P = fun w => .ok i.size w := by funext w; simp [sizeOf, hI]
  have hU : (underlying t).run P = fun w => .ok (.slice e) w := by funext w; simp [underlying, ht]
  have hV : (underlying u).run P = fun w => .ok d w := by funext w; simp [underlying, hu]
  cases d
  case int k => exact (hd _ rfl).elim
  all_goals
    simp only [Builtin.append_, h0, a0, a1, h1, Sem.run_bind, hU, Result.andThen_ok, hS, hV, Sem.run_pure]
    simp only [Result.andThen_ok, Bool.false_eq_true, if_false, Sem.run_bind, hn, Bool.not_false, if_true]
    rw [if_pos hg]
    simp only [Sem.run_bind, hw, Result.andThen_ok]
    cases base with
    | none =>
      simp only [Sem.run_pure] at hst
      cases hst
      rfl
    | some a =>
      simp only at hst
      simp only [Sem.run_bind, hst, Result.andThen_ok, Sem.run_pure]
end Go.Proofs.YtdgjcjhicbgfaaaGreat
end

/- The machine's append. Conditions: none but those that the lemmas name. -/
section
set_option linter.unusedSimpArgs false
set_option linter.unusedVariables false
namespace Go.Proofs.YtdgjcjhicbgfaaaGreat
open Go.RowKit

theorem Rel.addAt {base : Nat} {ν : Nu} {σ : St} {w w' : World} (r : Rel base ν σ w) (hs : w.heap.size ≤ w'.heap.size) (hl : ∀ k, Live ν σ k → w'.heap[k]? = w.heap[k]?) (o : AO) (k s c : Nat) (hf : ν σ.next = none)
    (hi : Obj.Is ν w' o (.loc k s c)) (hk : ¬ Live ν σ k) (hb : base ≤ k) : Rel base (ν.put σ.next (.loc k s c)) (σ.add o) w' := by
  have hle : Nu.le ν (ν.put σ.next (.loc k s c)) := Nu.le_put _ hf
  have r' := r.beside hs hl
  have hlive : ∀ j, Live (ν.put σ.next (.loc k s c)) (σ.add o) j → Live ν σ j ∨ j = k := by
    rintro j ⟨b, o', s', c', hb, hp, hν⟩
    rw [St.add_get] at hb
    by_cases he : b = σ.next
    · subst he
      rw [Nu.put_self] at hν; cases hν
      exact .inr rfl
    · rw [if_neg he] at hb
      rw [Nu.put_ne _ _ he] at hν
      exact .inl ⟨b, o', s', c', hb, hp, hν⟩
  refine ⟨?_, ?_, ?_, ?_, r'.size⟩
  · intro b o' hb
    rw [St.add_get] at hb
    by_cases he : b = σ.next
    · subst he
      rw [if_pos rfl] at hb; cases hb
      exact ⟨_, Nu.put_self _ _ _, hi.mono hle (fun _ _ _ _ _ => rfl)⟩
    · rw [if_neg he] at hb
      obtain ⟨e', he', hi'⟩ := r'.obj b o' hb
      exact ⟨e', by rw [Nu.put_ne _ _ he]; exact he', hi'.mono hle (fun _ _ _ _ _ => rfl)⟩
  · intro b b' o1 o2 j s1 s2 c1 c2 h1 h2 p1 p2 n1 n2
    rw [St.add_get] at h1 h2
    by_cases e1 : b = σ.next
    · by_cases e2 : b' = σ.next
      · rw [e1, e2]
      · rw [if_neg e2] at h2
        rw [Nu.put_ne _ _ e2] at n2
        subst e1
        rw [Nu.put_self] at n1; cases n1
        exact (hk ⟨b', o2, s2, c2, h2, p2, n2⟩).elim
    · rw [if_neg e1] at h1
      rw [Nu.put_ne _ _ e1] at n1
      by_cases e2 : b' = σ.next
      · subst e2
        rw [Nu.put_self] at n2; cases n2
        exact (hk ⟨b, o1, s1, c1, h1, p1, n1⟩).elim
      · rw [if_neg e2] at h2
        rw [Nu.put_ne _ _ e2] at n2
        exact r.inj b b' o1 o2 j s1 s2 c1 c2 h1 h2 p1 p2 n1 n2
  · intro j hj
    rcases hlive j hj with a | rfl
    · exact r.own j a
    · exact hb
  · intro b o' hb
    rw [St.add_get] at hb
    show b < σ.next + 1
    by_cases he : b = σ.next
    · omega
    · rw [if_neg he] at hb
      have := r.lt b o' hb
      omega

def newOf (σ : St) (sz : Nat) (x : AV) : Option (Nat × List AV) :=
  match x with
  | .str s => match sz with
    | 1 => some (s.length, byteVals s)
    | _ => none
  | .nsl => some (0, [])
  | _ => match sliceOf x with
    | some (_, _, 0) => some (0, [])
    | some (b, o, n + 1) => match σ.heap.get b with
      | some (.cells c _) => match cut c o ((n + 1) * sz) with
        | some l => some (n + 1, l)
        | none => none
      | _ => none
    | none => none
theorem run_first {P : Program} {w : World} {k o n sz cap len : Nat} {vs : List Value} (hl : vs.length = n * sz) (h : ∀ j v, vs[j]? = some v → w.cell? ⟨k, o + j, none⟩ = some v) : (Builtin.firstCells sz n (.slice (some ⟨k, o, none⟩) len cap)).run P w = .ok vs.toArray w := by
  show (loadCells ⟨k, o, none⟩ (n * sz)).run P w = _
  exact run_cells hl h
theorem newOf_ok {P : Program} {base : Nat} {ν : Nu} {σ : St} {w : World} (r : Rel base ν σ w) {sz n : Nat} {x : AV} {l : List AV} {xv : Value} (h : newOf σ sz x = some (n, l)) (hx : x.conc ν = some xv) :
    ∃ vs, (∀ w', (Builtin.lenOf xv).run P w' = .ok n w') ∧ (∀ w', w'.heap = w.heap → (Builtin.firstCells sz n xv).run P w' = .ok vs.toArray w') ∧ AV.concL ν l = some vs ∧ l.length = n * sz := by
  unfold newOf at h
  split at h
  · rename_i s
    split at h
    · cases h
      obtain rfl := conc_str hx
      refine ⟨_, fun w' => by simp [Builtin.lenOf, bytesOf_size], fun w' _ => ?_, byteVals_ok ν s, by simp [byteVals]⟩
      simp only [Builtin.firstCells, Sem.run_pure]
      congr 1
      apply Array.ext'
      have : (bytesOf s).extract 0 s.length = bytesOf s := by rw [← bytesOf_size]; exact extract_all _
      rw [this]
      simp
    · cases h
  · cases h
    obtain rfl := conc_nsl hx
    exact ⟨[], fun _ => rfl, fun _ _ => rfl, concL_nil ν, by simp⟩
  · split at h
    · rename_i b o hso
      cases h
      obtain ⟨k, s, m, q, c, hν, rfl, hq⟩ := sliceOf_ok hso hx
      refine ⟨[], fun _ => rfl, fun w' _ => ?_, concL_nil ν, by simp⟩
      exact run_first (vs := []) (by simp) (fun j v hj => by simp at hj)
    · rename_i b o n' hso
      split at h
      · rename_i c room hb
        split at h
        · rename_i l' hc
          cases h
          obtain ⟨k, s, m, q, cc, hν, rfl, hq⟩ := sliceOf_ok hso hx
          obtain rfl := hq (by omega)
          obtain ⟨vs, h1, h2, h3⟩ := (r.row hb hν).cells hc
          refine ⟨vs, fun _ => rfl, fun w' hw => ?_, h1, by rw [← h2]; exact (concL_len h1).symm⟩
          exact run_first h2 (fun j v hj => by rw [World.cell?_of_block (w := w) (by rw [hw])]; exact h3 j v hj)
        · cases h
      · cases h
    · cases h
def oldOf (σ : St) (sz b o : Nat) : Nat → Option (List AV)
  | 0 => some []
  | n + 1 => match σ.heap.get b with
    | some (.cells c _) => cut c o ((n + 1) * sz)
    | _ => none
structure AInfo where
  e : TypeId
  sz : Nat
  zlen : Nat
def aInfo (T : Tr TypeInfo) (ats : Array TypeId) : Option (TypeId × Nat) :=
  match ats[0]?, ats[1]? with
  | some t, some u => match undT T t, undT T u with
    | _, some (.int _) => none
    | some (.slice e), some _ => match sizeT T e, zeroL T e, bytesT T e with
      | some (sz + 1), some z, some bs => match Nat.beq z.length (sz + 1), Nat.ble bs 10000 with
        | true, true => some (e, sz + 1)
        | _, _ => none
      | _, _, _ => none
    | _, _ => none
  | _, _ => none
def eAppend (T : Tr TypeInfo) (σ : St) (ats : Array TypeId) (args : List AV) : Option (AV × St) :=
  match aInfo T ats, args with
  | some (_, sz), [s, x] => match newOf σ sz x with
    | some (m, l) => match s with
      | .nsl => match m with
        | 0 => some (.nsl, σ)
        | _ + 1 => match Nat.ble m 100000 with
          | true => some (.slu σ.next 0 0 m 0, σ.add (.cells l (some sz)))
          | false => none
      | .sl b o n c => match Nat.ble (n + m) c with
        | true => match m with
          | 0 => some (s, σ)
          | _ + 1 => match σ.heap.get b with
            | some (.cells cs room) => match Nat.ble (o + n * sz + l.length) cs.length, allOne l with
              | true, true => some (.sl b o (n + m) c, ⟨σ.heap.set b (.cells (splice cs (o + n * sz) l) room), σ.next⟩)
              | _, _ => none
            | _ => none
        | false => match oldOf σ sz b o n, Nat.ble (n + m) 100000 with
          | some old, true => some (.slu σ.next 0 0 (n + m) 0, σ.add (.cells (old ++ l) (some sz)))
          | _, _ => none
      | .slu b o o' n d => match m with
        | 0 => some (s, σ)
        | _ + 1 => match σ.heap.get b, oldOf σ sz b o n, Nat.ble (n + m) 100000 with
          | some (.cells cs (some sz')), some old, true => match Nat.beq sz' sz, Nat.beq o (d * sz), allOne l with
            | true, true, true => some (.slu σ.next 0 0 (n + m) 0, St.add ⟨σ.heap.set b .dead, σ.next⟩ (.cells (old ++ l) (some sz)))
            | _, _, _ => none
          | _, _, _ => none
      | _ => none
    | none => none
  | _, _ => none
section
variable {P : Program} {T : Tr TypeInfo} (hT : TOk P T) {base : Nat} {ν : Nu} {σ σ' : St} {w : World}
include hT
theorem aInfo_ok {ats : Array TypeId} {e : TypeId} {sz : Nat} (h : aInfo T ats = some (e, sz)) : ∃ t u d i z, ats[0]? = some t ∧ ats[1]? = some u ∧ P.underlying t = some (.slice e) ∧ P.underlying u = some d ∧ (∀ k, d ≠ .int k) ∧ P.info? e = some i ∧ i.zero = some z ∧ i.size = sz ∧ 0 < sz ∧ z.cells.size = sz ∧ i.bytes ≤ 10000 := by
  unfold aInfo at h
  split at h <;> first | (cases h; done) | skip
  rename_i t u h0 h1
  split at h <;> first | (cases h; done) | skip
  rename_i e' d hd ht hu
  split at h <;> first | (cases h; done) | skip
  rename_i sz' z bs hs hz hb
  split at h <;> first | (cases h; done) | skip
  rename_i b1 b2
  cases h
  have b1 := Nat.eq_of_beq_eq_true b1
  have b2 := Nat.le_of_ble_eq_true b2
  unfold sizeT at hs
  unfold bytesT at hb
  unfold zeroL zeroT at hz
  cases hg : T.get e with
  | none => rw [hg] at hs; cases hs
  | some i =>
    rw [hg] at hs hb hz
    simp only at hz
    cases hz' : i.zero with
    | none => rw [hz'] at hz; cases hz
    | some zv =>
      rw [hz'] at hz
      have := concL_len (absL_conc (ν := fun _ => none) hz)
      refine ⟨t, u, d, i, zv, h0, h1, und_ok hT ht, und_ok hT hu, fun k hk => hd k hk, hT _ _ hg, hz', Option.some.inj hs, by omega, by simp at this; omega, by have := Option.some.inj hb; omega⟩
omit hT in
theorem fits48 {need old bytes : Nat} (h : old < need) (hn : need ≤ 100000) (hb : bytes ≤ 10000) : Builtin.nextslicecap need old * bytes ≤ 281474976710656 :=
  growslice_fits h (Nat.le_trans (Nat.mul_le_mul hn hb) (by decide))
omit hT in
theorem zeroCells_size (z : Array Value) (n : Nat) : (Builtin.zeroCells z n).size = n * z.size := by simp [Builtin.zeroCells]
omit hT in
/-- The new row of an append that grows. -/
theorem grown_row {ol l : List AV} {olds news : List Value} {z : Array Value} {e : TypeId} {n m sz cap : Nat} (h1 : AV.concL ν ol = some olds) (h2 : AV.concL ν l = some news) (l1 : ol.length = n * sz) (l2 : l.length = m * sz) (hz : z.size = sz) (hc : n + m ≤ cap) :
    Obj.Is ν { w with drawn := w.drawn + 1, heap := w.heap.push (.cells (olds.toArray ++ news.toArray ++ Builtin.zeroCells z (cap - (n + m))) e) } (.cells (ol ++ l) (some sz)) (.loc w.heap.size 0 cap) := by
  have q1 := concL_len h1
  have q2 := concL_len h2
  have hsum : (n + m) * sz = n * sz + m * sz := Nat.add_mul _ _ _
  have hsub : (cap - (n + m)) * sz + (n + m) * sz = cap * sz := by rw [← Nat.add_mul]; congr 1; omega
  have hsize : (olds.toArray ++ news.toArray ++ Builtin.zeroCells z (cap - (n + m))).size = cap * sz := by
    simp only [Array.size_append, zeroCells_size, hz, List.size_toArray]
    omega
  refine .cells _ _ _ _ _ ⟨_, e, (0, 0), Array.getElem?_push_size, ?_, ?_, by intro i _ _ hh; omega, ?_⟩
  · rw [hsize]; simp; omega
  · intro i v hv
    obtain ⟨x, hx, hc'⟩ := concL_get (concL_append h1 h2) i v hv
    refine ⟨x, ?_, hc'⟩
    rw [Nat.zero_add, Array.getElem?_append_left (by
      have := (List.getElem?_eq_some_iff.1 hx).1
      simpa using this)]
    rw [← hx]
    simp
  · intro sz' hs
    cases hs
    rw [hsize]
    simp
    omega
theorem eAppend_ok (r : Rel base ν σ w) (hf : Free ν σ σ') {ats : Array TypeId} {ty : TypeId} {consts : Array Bool} {args : List AV} {vs : List Value} {v : AV} (h : eAppend T σ ats args = some (v, σ')) (ha : AV.concL ν args = some vs) :
    ES P base ν σ w (builtin .append ats ty consts vs.toArray) v σ' := by
  unfold eAppend at h
  split at h <;> first | (cases h; done) | skip
  rename_i e sz s x hA
  obtain ⟨t, u, d, i, z, h0, h1, ht, hu, hd, hi, hz, hsz, hpos, hzs, hbs⟩ := aInfo_ok hT hA
  obtain ⟨sv, vs', hsv, h2, rfl⟩ := concL_cons ha
  obtain ⟨xv, vs', hxv, h3, rfl⟩ := concL_cons h2
  rw [concL_nil] at h3; cases h3
  clear h2 ha
  split at h <;> first | (cases h; done) | skip
  rename_i m l hn
  obtain ⟨news, n1, n2, n3, n4⟩ := newOf_ok (P := P) r hn hxv
  subst hsz
  have fin : ∀ (cv : Value) (w' : World) (ν' : Nu), (Builtin.append_ ats ty [sv, xv].toArray).run P w = .ok cv w' → v.conc ν' = some cv → Rel base ν' σ' w' → Run ν σ w ν' σ' w' → ES P base ν σ w (builtin .append ats ty consts [sv, xv].toArray) v σ' := by
    intro cv w' ν' g1 g2 g3 g4
    exact ⟨.value cv, cv, ν', w', by simp only [builtin, Sem.run_bind, g1, Result.andThen_ok, Sem.run_pure], .inl rfl, g2, g3, g4⟩
  have fresh : ∀ (bs : Option Addr) (n c : Nat) (ol : List AV) (olds : List Value), sv = .slice bs n c → c < n + m → n + m ≤ 100000 → AV.concL ν ol = some olds → ol.length = n * i.size → (∀ w', w'.heap = w.heap → (Builtin.firstCells i.size n (.slice bs n c)).run P w' = .ok olds.toArray w') →
      v = .slu σ.next 0 0 (n + m) 0 → σ' = σ.add (.cells (ol ++ l) (some i.size)) → ES P base ν σ w (builtin .append ats ty consts [sv, xv].toArray) v σ' := by
    intro bs n c ol olds hs hg hle ho hol hrun hv hσ
    subst hs
    obtain ⟨cap, hcap, hr⟩ := run_append_fresh (P := P) (w := w) (ats := ats) (ty := ty) (args := [.slice bs n c, xv].toArray) h0 h1 ht hu hd hi hz (by simp) (by simp) n1 hrun n2 hg (by omega) (fits48 hg hle hbs)
    have his := grown_row (w := w) (e := e) ho n3 hol n4 hzs hcap
    have hnext : ν σ.next = none := hf _ (Nat.le_refl _) (by rw [hσ]; exact Nat.lt_succ_self _)
    have hG : Grow w { w with drawn := w.drawn + 1, heap := w.heap.push (.cells (olds.toArray ++ news.toArray ++ Builtin.zeroCells z.cells (cap - (n + m))) e) } := ⟨rfl, rfl, rfl, by simp, fun k hk => by show (w.heap.push _)[k]? = _; rw [Array.getElem?_push, if_neg (by omega)]⟩
    obtain ⟨g1, g2⟩ := r.add hG _ _ hnext his (fun k s c hh _ => by cases hh; exact Nat.le_refl _)
    subst hv hσ
    refine fin _ _ _ hr ?_ g1 g2
    rw [conc_slu_mk (Nu.put_self _ _ _) (by omega)]
    simp
  split at h
  · -- nil
    obtain rfl := conc_nsl hsv
    split at h
    · cases h
      refine fin (.slice none 0 0) w ν ?_ (by unfold AV.conc; rfl) r (.refl _ _ _)
      exact run_append_place (P := P) (w := w) (w' := w) h0 h1 ht hu hd hi (by simp) (by simp) n1 (n2 w rfl) (Nat.le_refl _) rfl
    · split at h <;> first | (cases h; done) | skip
      rename_i hble
      have hble := Nat.le_of_ble_eq_true hble
      cases h
      refine fresh none 0 0 [] [] rfl (by omega) (by omega) (concL_nil ν) (by simp) (fun _ _ => rfl) (by simp) (by simp)
  · -- a slice whose room is known
    rename_i b o n c
    obtain ⟨k, s0, m0, hν, hsv'⟩ := conc_sl hsv
    split at h
    · rename_i hble
      have hble := Nat.le_of_ble_eq_true hble
      split at h
      · cases h
        subst hsv'
        refine fin (.slice (some ⟨k, s0 + o, none⟩) n c) w ν ?_ hsv r (.refl _ _ _)
        have hn0 : news = [] := by have := concL_len n3; simp at n4; rw [n4] at this; simpa using this
        subst hn0
        exact run_append_place (P := P) (w := w) (w' := w) h0 h1 ht hu hd hi (by simp) (by simp) n1 (n2 w rfl) hble rfl
      · split at h <;> first | (cases h; done) | skip
        rename_i cs room hb
        split at h <;> first | (cases h; done) | skip
        rename_i hfit hone
        cases h
        have hfit := Nat.le_of_ble_eq_true hfit
        have hr := r.row hb hν
        obtain ⟨cs0, el, fr, g1, g2, g3, g4, g5⟩ := hr.out
        have hlen := concL_len n3
        obtain ⟨w', cs', q1, q2, q3, q4⟩ := store_cells (P := P) (s0 + (o + n * i.size)) news 0 w cs0 g1 (by omega) (fun j p q => g4 j (by omega) (by omega)) (allOne_ok hone n3)
        subst hsv'
        refine fin (.slice (some ⟨k, s0 + o, none⟩) _ c) w' ν ?_ (by unfold AV.conc; rw [hν]) (r.turn hb rfl hν (by rw [q2.size]; exact Nat.le_refl _) q2.far (.cells _ _ _ _ _ (hr.write g1 q2 q3 q4 n3 hfit))) (Run.turn hb rfl hν q2.os q2.tape q2.output (by rw [q2.size]; exact Nat.le_refl _) q2.far)
        refine run_append_place (P := P) (w := w) (w' := w') h0 h1 ht hu hd hi (by simp) (by simp) n1 (n2 w rfl) hble ?_
        simp only [addr_add, Nat.add_assoc]
        exact q1
    · rename_i hble
      split at h <;> first | (cases h; done) | skip
      rename_i old hold hle
      have hle := Nat.le_of_ble_eq_true hle
      cases h
      have hgt : c < n + m := by
        rcases Nat.lt_or_ge c (n + m) with g | g
        · exact g
        · rw [Nat.ble_eq_true_of_le g] at hble; cases hble
      unfold oldOf at hold
      split at hold
      · cases hold
        refine fresh _ 0 c [] [] hsv' hgt hle (concL_nil ν) (by simp) (fun w' _ => ?_) rfl rfl
        exact run_first (vs := []) (by simp) (fun j v hj => by simp at hj)
      · split at hold <;> first | (cases hold; done) | skip
        rename_i n' cs room hb
        obtain ⟨vs, p1, p2, p3⟩ := (r.row hb hν).cells hold
        refine fresh _ _ c old vs hsv' hgt hle p1 (by rw [← p2]; exact (concL_len p1).symm) (fun w' hw => ?_) rfl rfl
        exact run_first p2 (fun j v hj => by rw [World.cell?_of_block (w := w) (by rw [hw])]; exact p3 j v hj)
  · -- a slice whose room is not known
    rename_i b o o' n d
    obtain ⟨k, s0, cap, hν, hnd, hsv'⟩ := conc_slu hsv
    split at h
    · cases h
      subst hsv'
      refine fin _ w ν ?_ hsv r (.refl _ _ _)
      have hn0 : news = [] := by have := concL_len n3; simp at n4; rw [n4] at this; simpa using this
      subst hn0
      exact run_append_place (P := P) (w := w) (w' := w) h0 h1 ht hu hd hi (by simp) (by simp) n1 (n2 w rfl) (by omega) rfl
    · rename_i m1
      split at h <;> first | (cases h; done) | skip
      rename_i cs sz' old hb hold hle
      split at h <;> first | (cases h; done) | skip
      rename_i hb1 hb2 hone
      cases h
      have hle := Nat.le_of_ble_eq_true hle
      have hb1 := Nat.eq_of_beq_eq_true hb1
      have hb2 := Nat.eq_of_beq_eq_true hb2
      subst hb1 hb2
      have hr := r.row hb hν
      obtain ⟨cs0, el, fr, g1, g2, g3, g4, g5⟩ := hr.out
      obtain ⟨g5a, g5b⟩ := g5 _ rfl
      -- what was there
      have hol : ∃ olds, AV.concL ν old = some olds ∧ old.length = n * i.size ∧ (∀ j v, olds[j]? = some v → cs0[s0 + d * i.size + j]? = some v) ∧ ∀ w', w'.heap = w.heap → (Builtin.firstCells i.size n sv).run P w' = .ok olds.toArray w' := by
        unfold oldOf at hold
        split at hold
        · cases hold
          subst hsv'
          refine ⟨[], concL_nil ν, by simp, fun j v hj => by simp at hj, fun w' _ => ?_⟩
          exact run_first (vs := []) (by simp) (fun j v hj => by simp at hj)
        · rename_i n'
          rw [hb] at hold
          simp only at hold
          obtain ⟨vs, p1, p2, p3⟩ := hr.cells hold
          refine ⟨vs, p1, by rw [← p2]; exact (concL_len p1).symm, ?_, fun w' hw => ?_⟩
          · intro j v hj
            have := p3 j v hj
            simpa [World.cell?, g1] using this
          · subst hsv'
            rw [if_pos (by omega)]
            exact run_first p2 (fun j v hj => by rw [World.cell?_of_block (w := w) (by rw [hw])]; exact p3 j v hj)
      obtain ⟨olds, o1, o2, o3, o4⟩ := hol
      have hdead : Rel base ν ⟨σ.heap.set b .dead, σ.next⟩ w := r.turn hb rfl hν (Nat.le_refl _) (fun _ _ => rfl) (.dead _)
      have hdrun : Run ν σ w ν ⟨σ.heap.set b .dead, σ.next⟩ w := Run.turn hb rfl hν rfl rfl rfl (Nat.le_refl _) (fun _ _ => rfl)
      have hnext : ν σ.next = none := hf _ (Nat.le_refl _) (Nat.lt_succ_self _)
      have hnl : ¬ Live ν ⟨σ.heap.set b .dead, σ.next⟩ k := by
        rintro ⟨b', o', s', c', h1', h2', h3'⟩
        simp only [Tr.get_set] at h1'
        by_cases he : b' = b
        · rw [if_pos he] at h1'; cases h1'; cases h2'
        · rw [if_neg he] at h1'
          exact he (r.inj _ _ _ _ _ _ _ _ _ h1' hb h2' rfl h3' hν)
      have hbase : base ≤ k := r.own k ⟨b, _, s0, cap, hb, rfl, hν⟩
      by_cases hroom : n + (m1 + 1) ≤ cap - d
      · -- in place
        have n4' : l.length = (m1 + 1) * i.size := n4
        have hlen : news.length = (m1 + 1) * i.size := (concL_len n3).trans n4
        have hpos' : s0 + d * i.size + n * i.size + news.length ≤ cs0.size := by
          have e1 : (d + n + (m1 + 1)) * i.size ≤ cap * i.size := Nat.mul_le_mul_right _ (by omega)
          have e2 : (d + n + (m1 + 1)) * i.size = d * i.size + n * i.size + (m1 + 1) * i.size := by rw [Nat.add_mul, Nat.add_mul]
          omega
        obtain ⟨w', cs', q1, q2, q3, q4⟩ := store_cells (P := P) (s0 + d * i.size + n * i.size) news 0 w cs0 g1 (by omega) (fun j p q => g4 j (by omega) (by omega)) (allOne_ok hone n3)
        have hrow : Row ν w' (old ++ l) (some i.size) k (s0 + d * i.size) (cap - d) := by
          have e3 : (cap - d) * i.size + d * i.size = cap * i.size := by rw [← Nat.add_mul]; congr 1; omega
          have e4 : (n + (m1 + 1)) * i.size ≤ (cap - d) * i.size := Nat.mul_le_mul_right _ hroom
          have e5 : (n + (m1 + 1)) * i.size = n * i.size + (m1 + 1) * i.size := Nat.add_mul _ _ _
          refine ⟨cs', el, fr, q2.row, by simp; omega, ?_, by rw [q3]; exact fun j a b => g4 j (by omega) b, ?_⟩
          · intro j v hj
            by_cases hjn : j < old.length
            · rw [List.getElem?_append_left hjn] at hj
              obtain ⟨x, hx, hc⟩ := concL_get o1 j v hj
              refine ⟨x, ?_, hc⟩
              rw [q4, if_neg (by omega)]
              exact o3 j x hx
            · rw [List.getElem?_append_right (by omega)] at hj
              obtain ⟨x, hx, hc⟩ := concL_get n3 _ v hj
              have := (List.getElem?_eq_some_iff.1 hx).1
              refine ⟨x, ?_, hc⟩
              rw [q4, if_pos (by omega)]
              rw [← hx]
              congr 1
              omega
          · intro szz hs
            cases hs
            rw [q3]
            simp
            omega
        subst hsv'
        rw [if_pos (show d < cap by omega)] at *
        have hrel := hdead.addAt (w' := w') (by rw [q2.size]; exact Nat.le_refl _) (fun j hj => q2.far j (by rintro rfl; exact hnl hj)) (.cells (old ++ l) (some i.size)) k (s0 + d * i.size) (cap - d) hnext (.cells _ _ _ _ _ hrow) hnl hbase
        refine fin (.slice (some ⟨k, s0 + d * i.size, none⟩) (n + (m1 + 1)) (cap - d)) w' _ ?_ ?_ hrel ⟨Nu.le_put _ hnext, ?_, Nat.le_succ _, q2.os, q2.tape, q2.output, by rw [q2.size]; exact Nat.le_refl _, ?_, ?_, fun x hx => hdrun.dom x (St.add_none _ _ _ hx)⟩
        · refine run_append_place (P := P) (w := w) (w' := w') h0 h1 ht hu hd hi (by simp) (by simp) n1 (n2 w rfl) hroom ?_
          simp only [addr_add]
          exact q1
        · rw [conc_slu_mk (Nu.put_self _ _ _) (by omega)]
          simp
        · intro b' hb'
          refine Nu.put_ne _ _ ?_
          show b' ≠ σ.next
          rcases hb' with h | h
          · omega
          · have : σ.next + 1 ≤ b' := h
            omega
        · intro j _ hj
          exact q2.far j (by rintro rfl; exact hj ⟨b, _, s0, cap, hb, rfl, hν⟩)
        · rintro j ⟨b', o'', s'', c'', h1', h2', h3'⟩
          rw [St.add_get] at h1'
          by_cases he : b' = σ.next
          · subst he
            rw [Nu.put_self] at h3'; cases h3'
            exact .inl ⟨b, _, s0, cap, hb, rfl, hν⟩
          · rw [if_neg (show ¬ b' = St.next ⟨σ.heap.set b .dead, σ.next⟩ from he)] at h1'
            rw [Nu.put_ne _ _ he] at h3'
            simp only [Tr.get_set] at h1'
            by_cases he' : b' = b
            · rw [if_pos he'] at h1'; cases h1'; cases h2'
            · rw [if_neg he'] at h1'
              exact .inl ⟨b', o'', s'', c'', h1', h2', h3'⟩
      · -- it grows
        have hsv2 := hsv'
        obtain ⟨cp, hcap, hrr⟩ := run_append_fresh (P := P) (w := w) (ats := ats) (ty := ty) (args := [sv, xv].toArray) (sCap := cap - d) (sLen := n) (base := some ⟨k, s0 + (if d < cap then d * i.size else o'), none⟩) h0 h1 ht hu hd hi hz (by rw [hsv2]; simp) (by simp) n1 (fun w' hw => by have := o4 w' hw; rw [hsv2] at this; exact this) n2 (by omega) (by omega) (fits48 (by omega) hle hbs)
        have his := grown_row (w := w) (e := e) o1 n3 o2 n4 hzs hcap
        have hG : Grow w { w with drawn := w.drawn + 1, heap := w.heap.push (.cells (olds.toArray ++ news.toArray ++ Builtin.zeroCells z.cells (cp - (n + (m1 + 1)))) e) } := ⟨rfl, rfl, rfl, by simp, fun k hk => by show (w.heap.push _)[k]? = _; rw [Array.getElem?_push, if_neg (by omega)]⟩
        obtain ⟨y1, y2⟩ := hdead.add hG _ _ hnext his (fun k s c hh _ => by cases hh; exact Nat.le_refl _)
        refine fin _ _ _ hrr ?_ y1 (hdrun.trans y2)
        rw [conc_slu_mk (Nu.put_self _ _ _) (by omega)]
        simp
  · cases h
end
end Go.Proofs.YtdgjcjhicbgfaaaGreat
end

/- What the machine writes into maps, and all that it writes. Conditions: none but those that the lemmas name. -/
section
set_option linter.unusedSimpArgs false
set_option linter.unusedVariables false
namespace Go.Proofs.YtdgjcjhicbgfaaaGreat
open Go.RowKit

theorem Ents.of {ν : Nu} : ∀ {a : List (AV × AV × Nat)} {b : List MapEntry}, a.length = b.length → (∀ (i : Nat) (x : AV × AV × Nat) (e : MapEntry), a[i]? = some x → b[i]? = some e → Ent ν x e) → Ents ν a b
  | [], [], _, _ => trivial
  | x :: a, e :: b, hl, h => ⟨h 0 x e rfl rfl, Ents.of (by simpa using hl) (fun i y z hy hz => h (i + 1) y z (by simpa using hy) (by simpa using hz))⟩
  | [], _ :: _, hl, _ => by simp at hl
  | _ :: _, [], hl, _ => by simp at hl
theorem Ents.modify {ν : Nu} {a : List (AV × AV × Nat)} {b : Array MapEntry} (h : Ents ν a b.toList) (i : Nat) (x : AV × AV × Nat) (f : MapEntry → MapEntry) (hx : ∀ e, b[i]? = some e → Ent ν x (f e)) : Ents ν (a.set i x) (b.modify i f).toList := by
  have hl := h.len
  refine Ents.of (by simp at hl ⊢; exact hl) ?_
  intro j y e hy he
  have he' : (b.modify i f)[j]? = some e := by rw [← Array.getElem?_toList]; exact he
  rw [Array.getElem?_modify] at he'
  by_cases hj : i = j
  · subst hj
    rw [if_pos rfl] at he'
    cases hb : b[i]? with
    | none => rw [hb] at he'; cases he'
    | some e0 =>
      rw [hb] at he'
      cases he'
      have hlt : i < a.length := by
        have := (Array.getElem?_eq_some_iff.1 hb).1
        simp at hl; omega
      rw [List.getElem?_set_self hlt] at hy
      cases hy
      exact hx e0 hb
  · rw [if_neg hj] at he'
    rw [List.getElem?_set_ne hj] at hy
    obtain ⟨e2, g1, g2⟩ := h.get j y hy
    have : b.toList[j]? = some e := by simpa using he'
    rw [this] at g1; cases g1
    exact g2
theorem Ents.push {ν : Nu} {a : List (AV × AV × Nat)} {b : Array MapEntry} (h : Ents ν a b.toList) {x : AV × AV × Nat} {e : MapEntry} (hx : Ent ν x e) : Ents ν (a ++ [x]) (b.push e).toList := by
  have hl := h.len
  refine Ents.of (by simp at hl ⊢; exact hl) ?_
  intro j y e' hy he
  rw [Array.toList_push] at he
  by_cases hj : j < a.length
  · rw [List.getElem?_append_left hj] at hy
    rw [List.getElem?_append_left (by omega)] at he
    obtain ⟨e2, g1, g2⟩ := h.get j y hy
    rw [he] at g1; cases g1
    exact g2
  · rw [List.getElem?_append_right (by omega)] at hy
    rw [List.getElem?_append_right (by omega)] at he
    rw [hl] at hy
    cases hq : j - b.toList.length with
    | zero => rw [hq] at hy he; simp at hy he; subst hy he; exact hx
    | succ q => rw [hq] at hy; simp at hy
theorem Ents.erase {ν : Nu} {a : List (AV × AV × Nat)} {b : Array MapEntry} (h : Ents ν a b.toList) (i : Nat) (hi : i < a.length) : Ents ν (a.eraseIdx i) (b.eraseIdxIfInBounds i).toList := by
  have hl := h.len
  have hb : i < b.size := by simp at hl; omega
  have e0 : (b.eraseIdxIfInBounds i).toList = b.toList.eraseIdx i := by
    rw [Array.eraseIdxIfInBounds, dif_pos hb, Array.toList_eraseIdx]
  rw [e0]
  refine Ents.of (by rw [List.length_eraseIdx, List.length_eraseIdx]; simp [hl]) ?_
  intro j y e hy he
  rw [List.getElem?_eraseIdx] at hy he
  by_cases hj : j < i
  · rw [if_pos hj] at hy he
    obtain ⟨e2, g1, g2⟩ := h.get j y hy
    rw [he] at g1; cases g1; exact g2
  · rw [if_neg hj] at hy he
    obtain ⟨e2, g1, g2⟩ := h.get (j + 1) y hy
    rw [he] at g1; cases g1; exact g2
theorem run_setMap {P : Program} {w : World} {k clk clk' : Nat} {el el' : Array MapEntry} (h : w.heap[k]? = some (.map el clk)) : ∃ w', (setObj k (.map el' clk')).run P w = .ok () w' ∧ w'.heap[k]? = some (.map el' clk') ∧ (∀ j, j ≠ k → w'.heap[j]? = w.heap[j]?) ∧ w'.heap.size = w.heap.size ∧ w'.os = w.os ∧ w'.tape = w.tape ∧ w'.output = w.output := by
  have hlt : k < w.heap.size := (Array.getElem?_eq_some_iff.1 h).1
  refine ⟨{ w with heap := w.heap.setIfInBounds k (.map el' clk') }, by simp [setObj, Sem.run, h], ?_, ?_, by simp, rfl, rfl, rfl⟩
  · simp [hlt]
  · intro j hj
    simp only []
    rw [Array.getElem?_setIfInBounds_ne (by omega)]
theorem run_getMap {P : Program} {w : World} {k clk : Nat} {el : Array MapEntry} (h : w.heap[k]? = some (.map el clk)) : (getObj k).run P w = .ok (.map el clk) w := by simp [getObj, Sem.run, h]
/-- A map that is written in. -/
theorem Rel.mapTurn {P : Program} {base : Nat} {ν : Nu} {σ : St} {w : World} (r : Rel base ν σ w) {b k s c clk clk' : Nat} {es es' : List (AV × AV × Nat)} {el el' : Array MapEntry} (hb : σ.heap.get b = some (.map es clk)) (hν : ν b = some (.loc k s c)) (h : w.heap[k]? = some (.map el clk)) (he : Ents ν es' el'.toList) :
    ∃ w', (setObj k (.map el' clk')).run P w = .ok () w' ∧ Rel base ν ⟨σ.heap.set b (.map es' clk'), σ.next⟩ w' ∧ Run ν σ w ν ⟨σ.heap.set b (.map es' clk'), σ.next⟩ w' := by
  obtain ⟨w', g1, g2, g3, g4, g5, g6, g7⟩ := run_setMap (P := P) (el' := el') (clk' := clk') h
  exact ⟨w', g1, r.turn hb rfl hν (by rw [g4]; exact Nat.le_refl _) g3 (.map _ _ _ _ _ ⟨el', g2, he⟩), Run.turn hb rfl hν g5 g6 g7 (by rw [g4]; exact Nat.le_refl _) g3⟩

def stays (kk : KeyKind) (old : AV) : Bool :=
  match kk with
  | .num k n => match old with
    | .int k' n' => if k = k' then (if n = n' then true else false) else false
    | _ => false
  | .parts u => match plain old with
    | some v => Instr.sameBits 10000 v u
    | none => false
theorem sameBits_int (k : IntKind) (n : Int) : Instr.sameBits 10000 (.int k n) (.int k n) = true := by
  rw [Instr.sameBits]
  simp
def eUpdate (P : Program) (T : Tr TypeInfo) (σ : St) (t : TypeId) (m k x : AV) : Option St :=
  match undT T t, m with
  | some (.map kt _), .map b => match σ.heap.get b, keyKind P T kt false k with
    | some (.map es clk), some kk => match findA P kt kk es 0 with
      | some (some (i, _, born)) => match es[i]? with
        | some (old, _, _) => match stays kk old with
          | true => some ⟨σ.heap.set b (.map (es.set i (k, x, born)) clk), σ.next⟩
          | false => none
        | none => none
      | some none => some ⟨σ.heap.set b (.map (es ++ [(k, x, clk)]) (clk + 1)), σ.next⟩
      | none => none
    | _, _ => none
  | _, _ => none
def eEntry (P : Program) (T : Tr TypeInfo) (σ : St) (t : TypeId) (m k : AV) : Option (AV × St) :=
  match undT T t, m with
  | some (.map kt e), .map b => match σ.heap.get b, keyKind P T kt false k with
    | some (.map es clk), some kk => match findA P kt kk es 0 with
      | some (some (i, v, born)) => match es[i]? with
        | some (old, _, _) => match stays kk old with
          | true => some (.tup [v, .int .i64 born], ⟨σ.heap.set b (.map (es.set i (k, v, born)) clk), σ.next⟩)
          | false => none
        | none => none
      | some none => match zeroT T e with
        | some z => match absV z with
          | some zv => some (.tup [zv, .int .i64 clk], ⟨σ.heap.set b (.map (es ++ [(k, zv, clk)]) (clk + 1)), σ.next⟩)
          | none => none
        | none => none
      | none => none
    | _, _ => none
  | _, _ => none
def idxBorn (n : Int) : List (AV × AV × Nat) → Nat → Option (Nat × AV)
  | [], _ => none
  | (k, _, born) :: r, i => if (born : Int) = n then some (i, k) else idxBorn n r (i + 1)
def eEntryStore (σ : St) (m stamp x : AV) : Option St :=
  match m, stamp with
  | .map b, .int _ n => match σ.heap.get b with
    | some (.map es clk) => match idxBorn n es 0 with
      | some (i, k) => match es[i]? with
        | some (k, _, born) => some ⟨σ.heap.set b (.map (es.set i (k, x, born)) clk), σ.next⟩
        | none => none
      | none => none
    | _ => none
  | _, _ => none
def eDelete (P : Program) (T : Tr TypeInfo) (σ : St) (ats : Array TypeId) (args : List AV) : Option St :=
  match ats[0]?, args with
  | some t, [.map b, k] => match undT T t, σ.heap.get b with
    | some (.map kt _), some (.map es clk) => match keyKind P T kt es.isEmpty k with
      | some kk => match findA P kt kk es 0 with
        | some (some (i, _, _)) => match Nat.blt i es.length with
          | true => some ⟨σ.heap.set b (.map (es.eraseIdx i) clk), σ.next⟩
          | false => none
        | some none => some ⟨σ.heap.set b (.map es clk), σ.next⟩
        | none => none
      | none => none
    | _, _ => none
  | _, _ => none
section
variable {P : Program} {T : Tr TypeInfo} (hT : TOk P T) {base : Nat} {ν : Nu} {σ σ' : St} {w : World}
theorem stays_ok {kt : TypeId} {k old : AV} {kv ov : Value} {kk : KeyKind} {empty : Bool} (hk : keyKind P T kt empty k = some kk) (hs : stays kk old = true) (h : k.conc ν = some kv) (ho : old.conc ν = some ov) : (Instr.keyThatStays ov kv).run P w = .ok kv w := by
  have : Instr.sameBits 10000 ov kv = true := by
    unfold keyKind at hk
    unfold stays at hs
    split at hk
    · cases hk
      simp only at hs
      split at hs
      · split at hs
        · split at hs
          · rename_i h1 h2
            subst h1 h2
            obtain rfl := conc_int h
            obtain rfl := conc_int ho
            exact sameBits_int _ _
          · cases hs
        · cases hs
      · cases hs
    · split at hk
      · rename_i hp
        split at hk
        · cases hk
          simp only at hs
          split at hs
          · rename_i hq
            have e1 := plain_ok (ν := ν) hp
            have e2 := plain_ok (ν := ν) hq
            rw [h] at e1; cases e1
            rw [ho] at e2; cases e2
            exact hs
          · cases hs
        · cases hk
      · cases hk
    · cases hk
  unfold Instr.keyThatStays
  rw [if_pos this]
  rfl
include hT
theorem eUpdate_ok (r : Rel base ν σ w) {t : TypeId} {m k x : AV} {mv kv xv : Value} (h : eUpdate P T σ t m k x = some σ') (hm : m.conc ν = some mv) (hk : k.conc ν = some kv) (hx : x.conc ν = some xv) :
    ∃ w', (Instr.mapUpdate t mv kv xv).run P w = .ok () w' ∧ Rel base ν σ' w' ∧ Run ν σ w ν σ' w' := by
  unfold eUpdate at h
  split at h <;> first | (cases h; done) | skip
  rename_i kt e b hu
  split at h <;> first | (cases h; done) | skip
  rename_i es clk kk hb hkk
  obtain ⟨kb, s, c, hν, rfl⟩ := conc_map hm
  obtain ⟨el, h1, h2⟩ := (r.mrow hb hν).out
  split at h <;> first | (cases h; done) | skip
  · rename_i i v born hf
    obtain ⟨c1, cv, f1, k0, e0, g1, g2, g3, g4, g5⟩ := find_ok (P := P) (w := w) hT hkk hk hf h2
    rw [g1] at h
    simp only at h
    split at h <;> first | (cases h; done) | skip
    rename_i hs
    cases h
    obtain ⟨e1, q1, q2⟩ := h2.get _ _ g1
    rw [g2] at q1; cases q1
    have hst := stays_ok (P := P) (w := w) hkk hs hk q2.key
    have g2' : el[i]? = some e0 := by simpa using g2
    obtain ⟨w', p1, p2, p3⟩ := r.mapTurn (P := P) (clk' := clk) (es' := es.set i (k, x, born)) (el' := el.modify i fun e => { e with key := kv, val := xv }) hb hν h1 (h2.modify i _ _ (fun e he => by
      rw [g2'] at he; cases he
      exact ⟨hk, hx, q2.born⟩))
    refine ⟨w', ?_, p2, p3⟩
    simp only [Instr.mapUpdate, Sem.run_bind, run_und hT w hu, Result.andThen_ok, run_getMap h1, c1, f1]
    rw [g2']
    simp only [Option.map_some, Option.getD_some, Sem.run_bind, hst, Result.andThen_ok]
    exact p1
  · rename_i hf
    cases h
    obtain ⟨c1, f1⟩ := find_ok (P := P) (w := w) hT hkk hk hf h2
    have f1 : (Instr.findKey kt kv el.toList).run P w = .ok none w := f1
    obtain ⟨w', p1, p2, p3⟩ := r.mapTurn (P := P) (clk' := clk + 1) (es' := es ++ [(k, x, clk)]) (el' := el.push { key := kv, val := xv, born := clk }) hb hν h1 (h2.push ⟨hk, hx, rfl⟩)
    refine ⟨w', ?_, p2, p3⟩
    simp only [Instr.mapUpdate, Sem.run_bind, run_und hT w hu, Result.andThen_ok, run_getMap h1, c1, f1]
    exact p1
theorem eEntry_ok (r : Rel base ν σ w) {t : TypeId} {m k v : AV} {mv kv : Value} (h : eEntry P T σ t m k = some (v, σ')) (hm : m.conc ν = some mv) (hk : k.conc ν = some kv) :
    ∃ w' c, (Instr.mapEntry t mv kv).run P w = .ok c w' ∧ v.conc ν = some c ∧ Rel base ν σ' w' ∧ Run ν σ w ν σ' w' := by
  unfold eEntry at h
  split at h <;> first | (cases h; done) | skip
  rename_i kt e b hu
  split at h <;> first | (cases h; done) | skip
  rename_i es clk kk hb hkk
  obtain ⟨kb, s, c, hν, rfl⟩ := conc_map hm
  obtain ⟨el, h1, h2⟩ := (r.mrow hb hν).out
  split at h <;> first | (cases h; done) | skip
  · rename_i i v0 born hf
    obtain ⟨c1, cv, f1, k0, e0, g1, g2, g3, g4, g5⟩ := find_ok (P := P) (w := w) hT hkk hk hf h2
    rw [g1] at h
    simp only at h
    split at h <;> first | (cases h; done) | skip
    rename_i hs
    cases h
    obtain ⟨e1, q1, q2⟩ := h2.get _ _ g1
    rw [g2] at q1; cases q1
    have hst := stays_ok (P := P) (w := w) hkk hs hk q2.key
    have g2' : el[i]? = some e0 := by simpa using g2
    obtain ⟨w', p1, p2, p3⟩ := r.mapTurn (P := P) (clk' := clk) (es' := es.set i (k, v0, born)) (el' := el.modify i fun e => { e with key := kv }) hb hν h1 (h2.modify i _ _ (fun e he => by
      rw [g2'] at he; cases he
      exact ⟨hk, q2.val, q2.born⟩))
    refine ⟨w', .tuple #[cv, goInt born], ?_, conc_tup_mk (concL_mk g3 (concL_mk (int_conc _ _ _) (concL_nil _))), p2, p3⟩
    simp only [Instr.mapEntry, Sem.run_bind, run_und hT w hu, Result.andThen_ok, run_getMap h1, c1, f1]
    rw [g2']
    simp only [Option.map_some, Option.getD_some, Sem.run_bind, hst, Result.andThen_ok, p1, Sem.run_pure, g5]
  · rename_i hf
    split at h <;> first | (cases h; done) | skip
    rename_i z hz
    split at h <;> first | (cases h; done) | skip
    rename_i zv hzv
    cases h
    obtain ⟨c1, f1⟩ := find_ok (P := P) (w := w) hT hkk hk hf h2
    have f1 : (Instr.findKey kt kv el.toList).run P w = .ok none w := f1
    have hzc := absV_conc (ν := ν) hzv
    obtain ⟨w', p1, p2, p3⟩ := r.mapTurn (P := P) (clk' := clk + 1) (es' := es ++ [(k, zv, clk)]) (el' := el.push { key := kv, val := z, born := clk }) hb hν h1 (h2.push ⟨hk, hzc, rfl⟩)
    refine ⟨w', .tuple #[z, goInt clk], ?_, conc_tup_mk (concL_mk hzc (concL_mk (int_conc _ _ _) (concL_nil _))), p2, p3⟩
    simp only [Instr.mapEntry, Sem.run_bind, run_und hT w hu, Result.andThen_ok, run_getMap h1, c1, f1, run_zero hT w hz, p1, Sem.run_pure]
omit hT in
theorem idxBorn_ok {n : Int} : ∀ {es : List (AV × AV × Nat)} {el : List MapEntry} {i j : Nat} {k : AV}, idxBorn n es i = some (j, k) → Ents ν es el → i ≤ j ∧ el.findIdx? (fun e => (e.born : Int) == n) = some (j - i)
  | [], [], i, j, k, h, _ => by cases h
  | (k0, v, born) :: es, e :: el, i, j, k, h, ⟨h1, h2⟩ => by
    unfold idxBorn at h
    have hb := h1.born
    simp only at hb
    split at h
    · rename_i hn
      cases h
      refine ⟨Nat.le_refl _, ?_⟩
      rw [List.findIdx?_cons, ← hb]
      simp [hn]
    · rename_i hn
      obtain ⟨a, b⟩ := idxBorn_ok h h2
      refine ⟨by omega, ?_⟩
      rw [List.findIdx?_cons, ← hb]
      have : ((born : Int) == n) = false := by simpa using hn
      simp only [this, Bool.false_eq_true, if_false, b, Option.map_some]
      congr 1
      omega
  | [], _ :: _, _, _, _, _, h => h.elim
  | _ :: _, [], _, _, _, _, h => h.elim
omit hT in
theorem eEntryStore_ok (r : Rel base ν σ w) {t : TypeId} {m k x : AV} {mv kv xv : Value} (h : eEntryStore σ m k x = some σ') (hm : m.conc ν = some mv) (hk : k.conc ν = some kv) (hx : x.conc ν = some xv) :
    ∃ w', (Instr.entryStore t mv kv xv).run P w = .ok () w' ∧ Rel base ν σ' w' ∧ Run ν σ w ν σ' w' := by
  unfold eEntryStore at h
  split at h <;> first | (cases h; done) | skip
  rename_i b kd n
  split at h <;> first | (cases h; done) | skip
  rename_i es clk hb
  obtain ⟨kb, s, c, hν, rfl⟩ := conc_map hm
  obtain rfl := conc_int hk
  obtain ⟨el, h1, h2⟩ := (r.mrow hb hν).out
  split at h <;> first | (cases h; done) | skip
  rename_i i k0 hi
  split at h <;> first | (cases h; done) | skip
  rename_i k1 v1 born hg
  cases h
  obtain ⟨_, hidx⟩ := idxBorn_ok hi h2
  obtain ⟨e1, q1, q2⟩ := h2.get _ _ hg
  have q1' : el[i]? = some e1 := by simpa using q1
  obtain ⟨w', p1, p2, p3⟩ := r.mapTurn (P := P) (clk' := clk) (es' := es.set i (k1, x, born)) (el' := el.modify i fun e => { e with val := xv }) hb hν h1 (h2.modify i _ _ (fun e he => by
    rw [q1'] at he; cases he
    exact ⟨q2.key, hx, q2.born⟩))
  refine ⟨w', ?_, p2, p3⟩
  have hidx' : el.findIdx? (fun e => (e.born : Int) == n) = some i := by
    have e0 := List.findIdx?_toArray (fun e : MapEntry => (e.born : Int) == n) el.toList
    rw [Array.toArray_toList] at e0
    rw [e0]
    simpa using hidx
  simp only [Instr.entryStore, Sem.run_bind, run_getMap h1, Result.andThen_ok, asInt, asIntOf, Sem.run_pure, hidx']
  exact p1
theorem eDelete_ok (r : Rel base ν σ w) {ats : Array TypeId} {ty : TypeId} {args : List AV} {vs : List Value} (h : eDelete P T σ ats args = some σ') (ha : AV.concL ν args = some vs) :
    ∃ w', (Builtin.delete_ ats ty vs.toArray).run P w = .ok (.tuple #[]) w' ∧ Rel base ν σ' w' ∧ Run ν σ w ν σ' w' := by
  unfold eDelete at h
  split at h <;> first | (cases h; done) | skip
  rename_i t b k ht
  obtain ⟨mv, vs', hm, ha2, rfl⟩ := concL_cons ha
  obtain ⟨kv, vs', hk, ha3, rfl⟩ := concL_cons ha2
  rw [concL_nil] at ha3; cases ha3
  split at h <;> first | (cases h; done) | skip
  rename_i kt e es clk hu hb
  obtain ⟨kb, s, c, hν, rfl⟩ := conc_map hm
  obtain ⟨el, h1, h2⟩ := (r.mrow hb hν).out
  split at h <;> first | (cases h; done) | skip
  rename_i kk hkk
  have hemp : es.isEmpty = el.isEmpty := by
    have := h2.len
    rw [Bool.eq_iff_iff, List.isEmpty_iff_length_eq_zero, Array.isEmpty_iff_size_eq_zero, this]
    simp
  rw [hemp] at hkk
  split at h <;> first | (cases h; done) | skip
  · rename_i i v born hf
    obtain ⟨c1, cv, f1, k0, e0, g1, g2, g3, g4, g5⟩ := find_ok (P := P) (w := w) hT hkk hk hf h2
    split at h <;> first | (cases h; done) | skip
    rename_i hlt
    cases h
    obtain ⟨w', p1, p2, p3⟩ := r.mapTurn (P := P) (clk' := clk) (es' := es.eraseIdx i) (el' := el.eraseIdxIfInBounds i) hb hν h1 (h2.erase i (blt_lt hlt))
    refine ⟨w', ?_, p2, p3⟩
    simp [Builtin.delete_, ht, run_und hT w hu, run_getMap h1, c1, f1, p1]
  · rename_i hf
    cases h
    obtain ⟨c1, f1⟩ := find_ok (P := P) (w := w) hT hkk hk hf h2
    have f1 : (Instr.findKey kt kv el.toList).run P w = .ok none w := f1
    obtain ⟨w', p1, p2, p3⟩ := r.mapTurn (P := P) (clk' := clk) (es' := es) (el' := el) hb hν h1 h2
    refine ⟨w', ?_, p2, p3⟩
    simp [Builtin.delete_, ht, run_und hT w hu, run_getMap h1, c1, f1, p1]
end

def undA : AV := .tup []
def oSt : Option St → Option (AV × St)
  | some σ => some (undA, σ)
  | none => none
def bStore (t : TypeId) (a x : Operand) (_ : Program) (T : Tr TypeInfo) (σ : St) (ev : Ev) : Option (AV × St) := match ev a, ev x with | some a, some x => oSt (eStore T σ t a x) | _, _ => none
def bUpdate (t : TypeId) (m k x : Operand) (P : Program) (T : Tr TypeInfo) (σ : St) (ev : Ev) : Option (AV × St) := match ev m, ev k, ev x with | some m, some k, some x => oSt (eUpdate P T σ t m k x) | _, _, _ => none
def bEntry (t : TypeId) (m k : Operand) (P : Program) (T : Tr TypeInfo) (σ : St) (ev : Ev) : Option (AV × St) := match ev m, ev k with | some m, some k => eEntry P T σ t m k | _, _ => none
def bEntryStore (m s x : Operand) (_ : Program) (_ : Tr TypeInfo) (σ : St) (ev : Ev) : Option (AV × St) := match ev m, ev s, ev x with | some m, some s, some x => oSt (eEntryStore σ m s x) | _, _, _ => none
def bCall (c : Call) (P : Program) (T : Tr TypeInfo) (σ : St) (ev : Ev) : Option (AV × St) := match c.callee with
  | .builtin b => match evL ev c.args.toList with
    | some l => match b with
      | .append => eAppend T σ c.argTypes l
      | .delete => oSt (eDelete P T σ c.argTypes l)
      | _ => none
    | none => none
  | _ => none
def bNo (_ : Program) (_ : Tr TypeInfo) (_ : St) (_ : Ev) : Option (AV × St) := none
/-- A step that writes. -/
def eop (P : Program) (T : Tr TypeInfo) (σ : St) (ev : Ev) (o : Op) : Option (AV × St) :=
  (match o with
  | .store t a x => bStore t a x
  | .mapUpdate t m k x => bUpdate t m k x
  | .mapEntry t m k => bEntry t m k
  | .entryStore _ m s x => bEntryStore m s x
  | .call c => bCall c
  | _ => bNo : Program → Tr TypeInfo → St → Ev → Option (AV × St)) P T σ ev
theorem undA_conc (ν : Nu) : undA.conc ν = some undef := conc_tup_mk (concL_nil ν)
theorem ES.skip {P : Program} {base : Nat} {ν : Nu} {σ σ' : St} {w : World} {s : Sem Unit} (h : ∃ w', s.run P w = .ok () w' ∧ Rel base ν σ' w' ∧ Run ν σ w ν σ' w') : ES P base ν σ w (do s; pure .skip) undA σ' := by
  obtain ⟨w', h1, h2, h3⟩ := h
  exact ⟨.skip, undef, ν, w', by simp [h1], .inr ⟨rfl, rfl⟩, undA_conc _, h2, h3⟩
theorem oSt_ok {x : Option St} {v : AV} {σ : St} (h : oSt x = some (v, σ)) : x = some σ ∧ v = undA := by
  unfold oSt at h
  split at h
  · cases h; exact ⟨rfl, rfl⟩
  · cases h
theorem eop_ok {P : Program} {T : Tr TypeInfo} (hT : TOk P T) {base : Nat} {ν : Nu} {σ σ' : St} {w : World} (r : Rel base ν σ w) (hf : Free ν σ σ') {ev : Ev} {ρ : Operand → Value} (he : EvOk ν ev ρ) {o : Oper} {v : AV} (h : eop P T σ ev o.op = some (v, σ')) :
    ES P base ν σ w (execOp ρ o) v σ' := by
  obtain ⟨dst, op, type, pos, after, guard⟩ := o
  simp only at h
  unfold eop at h
  unfold execOp
  simp only
  split at h <;> simp only [bStore, bUpdate, bEntry, bEntryStore, bCall, bNo] at h <;> first | (cases h; done) | skip
  · split at h <;> first | (cases h; done) | skip
    rename_i ha hx
    obtain ⟨h1, rfl⟩ := oSt_ok h
    exact ES.skip (eStore_ok hT r h1 (he _ _ ha) (he _ _ hx))
  · split at h <;> first | (cases h; done) | skip
    rename_i hm hk hx
    obtain ⟨h1, rfl⟩ := oSt_ok h
    exact ES.skip (eUpdate_ok hT r h1 (he _ _ hm) (he _ _ hk) (he _ _ hx))
  · split at h <;> first | (cases h; done) | skip
    rename_i hm hk
    obtain ⟨w', c, g1, g2, g3, g4⟩ := eEntry_ok (P := P) (w := w) hT r h (he _ _ hm) (he _ _ hk)
    exact ⟨.value c, c, ν, w', by simp [g1], .inl rfl, g2, g3, g4⟩
  · split at h <;> first | (cases h; done) | skip
    rename_i hm hk hx
    obtain ⟨h1, rfl⟩ := oSt_ok h
    exact ES.skip (eEntryStore_ok r h1 (he _ _ hm) (he _ _ hk) (he _ _ hx))
  · rename_i c
    split at h <;> first | (cases h; done) | skip
    rename_i b hcal
    split at h <;> first | (cases h; done) | skip
    rename_i l hl
    split at h <;> first | (cases h; done) | skip
    · have h2 := eAppend_ok (ty := type) (consts := (c.args.map fun | .const _ => true | _ => false)) hT r hf h (evL_ok he hl)
      have e : (c.args.toList.map ρ).toArray = c.args.map ρ := by rw [← Array.toList_map]
      rw [e] at h2
      obtain ⟨n, cv, ν', w', g1, g2⟩ := h2
      refine ⟨n, cv, ν', w', ?_, g2⟩
      show Sem.run P (resolve ρ c type >>= fun d => invoke d.target d.args) w = _
      simp only [resolve, hcal, Sem.run_bind, Sem.run_pure, Result.andThen_ok, invoke]
      exact g1
    · obtain ⟨h1, rfl⟩ := oSt_ok h
      obtain ⟨w', g1, g2, g3⟩ := eDelete_ok (P := P) (w := w) (ty := type) hT r h1 (evL_ok he hl)
      have e : (c.args.toList.map ρ).toArray = c.args.map ρ := by rw [← Array.toList_map]
      rw [e] at g1
      refine ⟨.value (.tuple #[]), .tuple #[], ν, w', ?_, .inl rfl, undA_conc _, g2, g3⟩
      show Sem.run P (resolve ρ c type >>= fun d => invoke d.target d.args) w = _
      simp only [resolve, hcal, Sem.run_bind, Sem.run_pure, Result.andThen_ok, invoke, builtin, g1]
end Go.Proofs.YtdgjcjhicbgfaaaGreat
end

/- The machine runs code: its regions, whose order may be open, its calls, its loops. Conditions: none; plain definitions. -/
section
set_option linter.unusedSimpArgs false
set_option linter.unusedVariables false
namespace Go.Proofs.YtdgjcjhicbgfaaaGreat
open Go.RowKit

/-- What a call has in its slots. -/
structure AA where
  t : Tr AV
  n : Nat
def AA.at (A : AA) (i : Nat) : AV := match A.t.get i with | some v => v | none => undA
def AA.put (A : AA) (d : Option Nat) (v : AV) : Option AA :=
  match d with
  | none => some A
  | some d => match Nat.blt d A.n with
    | true => some ⟨A.t.set d v, A.n⟩
    | false => none
def evT (A : AA) : Ev
  | .tmp t => match Nat.blt t A.n with
    | true => some (A.at t)
    | false => none
  | .const v => absV v
  | .func f => some (.fn (.func f) [] [])
  | .global _ => none
def memN (t : Nat) : List Nat → Bool
  | [] => false
  | x :: r => match Nat.beq x t with | true => true | false => memN t r
def evR (rds : List Nat) (A : AA) : Ev
  | .tmp t => match memN t rds with
    | true => evT A (.tmp t)
    | false => none
  | x => evT A x

/-- What is asked of an operation that waits on another one's answer. -/
def guardA (ops : Array Oper) (A : AA) (o : Oper) : Option Bool :=
  match o.guard with
  | none => some true
  | some (j, want) => match ops[j]? with
    | some g => match g.dst with
      | some d => match Nat.blt d A.n with
        | true => match A.at d with
          | .bool b => some (b == want)
          | _ => some false
        | false => none
      | none => some false
    | none => some false

inductive AX where
  | normal
  | exit (id : Nat)
  | ret
abbrev Ex := Code → AA → St → Option (AX × AA × St)
/-- The program, as the machine has it. -/
structure Cfg where
  P : Program
  T : Tr TypeInfo
  F : Tr Func
  prim : Nat → Option (List AV → St → Option (AV × St))

def mkT : List AV → Nat → Tr AV → Tr AV
  | [], _, t => t
  | v :: r, i, t => mkT r (i + 1) (t.set i v)
def resL (T : Tr TypeInfo) (σ : St) (A : AA) : List ResultVar → Option (List AV)
  | [] => some []
  | .tmp t :: r => match Nat.blt t A.n, resL T σ A r with | true, some l => some (A.at t :: l) | _, _ => none
  | .cell a t :: r => match Nat.blt a A.n, resL T σ A r with
    | true, some l => match fLoad T σ t (A.at a) with | some v => some (v :: l) | none => none
    | _, _ => none
def callT (C : Cfg) (ex : Ex) (f : Nat) (args : List AV) (σ : St) : Option (AV × St) :=
  match C.prim f with
  | some g => g args σ
  | none => match C.F.get f with
    | some fn => match fn.body, Nat.ble args.length fn.ntmps with
      | some c, true => match ex c ⟨mkT args 0 .nil, fn.ntmps⟩ σ with
        | some (x, A, σ') => match x with
          | .exit _ => none
          | _ => match resL C.T σ' A fn.results.toList with
            | some [v] => some (v, σ')
            | some vs => some (.tup vs, σ')
            | none => none
        | none => none
      | _, _ => none
    | none => none
def methT (T : Tr TypeInfo) (t : TypeId) (name : String) : Option Nat :=
  match T.get t, undT T t with
  | some i, some (.pointer _) => match i.methods.find? (·.name == name) with
    | some m => match m.path.toList, m.func with
      | [], some (f, true) => some f
      | _, _ => none
    | none => none
  | _, _ => none
def resolveT (T : Tr TypeInfo) (ev : Ev) (c : Call) : Option (Nat × List AV) :=
  match c.callee with
  | .value f => match ev f, evL ev c.args.toList with
    | some (.fn (.func g) first cap), some l => some (g, first ++ l ++ cap)
    | _, _ => none
  | .invoke r name => match ev r, evL ev c.args.toList with
    | some (.iface t v), some l => match methT T t name with
      | some g => some (g, v :: l)
      | none => none
    | _, _ => none
  | .builtin _ => none
def isFloat : Op → Bool
  | .store .. | .mapUpdate .. | .mapEntry .. | .entryStore .. => false
  | .call c => match c.callee with
    | .builtin .len | .builtin .cap | .builtin .min | .builtin .max => true
    | _ => false
  | _ => true
def isCall : Op → Bool
  | .call c => match c.callee with
    | .builtin _ => false
    | _ => true
  | _ => false
/-- A step that is no float. -/
def effCall (c : Call) (C : Cfg) (ex : Ex) (ev : Ev) (σ : St) : Option (AV × St) := match resolveT C.T ev c with
  | some (f, args) => callT C ex f args σ
  | none => none
def effNo (_ : Cfg) (_ : Ex) (_ : Ev) (_ : St) : Option (AV × St) := none
def effT (C : Cfg) (ex : Ex) (o : Oper) (ev : Ev) (σ : St) : Option (AV × St) :=
  match isCall o.op with
  | true => (match o.op with
    | .call c => effCall c
    | _ => effNo : Cfg → Ex → Ev → St → Option (AV × St)) C ex ev σ
  | false => eop C.P C.T σ ev o.op
def FR.at (σ : St) : FR → AV × St
  | .val v => (v, σ)
  | .new o k => (k.av σ.next, σ.add o)
/-- The operations in order. -/
def sFloat (C : Cfg) (o : Oper) (A : AA) (σ : St) : Option (AA × St) := match fop C.P C.T σ (evT A) o.op with
  | some fr => match A.put o.dst (fr.at σ).1 with
    | some A' => some (A', (fr.at σ).2)
    | none => none
  | none => none
def sEff (C : Cfg) (ex : Ex) (o : Oper) (A : AA) (σ : St) : Option (AA × St) := match effT C ex o (evT A) σ with
  | some (v, σ') => match A.put o.dst v with
    | some A' => some (A', σ')
    | none => none
  | none => none
def sSkip (o : Oper) (A : AA) (σ : St) : Option (AA × St) := match A.put o.dst undA with
  | some A' => some (A', σ)
  | none => none
def sStep (C : Cfg) (ex : Ex) (ops : Array Oper) (o : Oper) (A : AA) (σ : St) : Option (AA × St) := match guardA ops A o with
  | some true => match isFloat o.op with
    | true => sFloat C o A σ
    | false => sEff C ex o A σ
  | some false => sSkip o A σ
  | none => none
def seqT (C : Cfg) (ex : Ex) (ops : Array Oper) : List Oper → AA → St → Option (AA × St)
  | [], A, σ => some (A, σ)
  | o :: r, A, σ => match sStep C ex ops o A σ with
    | some (A', σ') => seqT C ex ops r A' σ'
    | none => none

/-! ### A region whose order is open -/
/-- A place in the order: the operation's number; does it turn nothing; behind how many that turn something it stands at least; what was made ahead of it. -/
structure PI where
  i : Nat
  flt : Bool
  a : Nat
  al : List Nat
def opTmps : List Operand → List Nat
  | [] => []
  | .tmp t :: r => t :: opTmps r
  | _ :: r => opTmps r
def rdsOf (ops : Array Oper) (o : Oper) : List Nat :=
  match o.guard with
  | none => opTmps o.op.operands.toList
  | some (j, _) => match ops[j]? with
    | some g => match g.dst with
      | some d => d :: opTmps o.op.operands.toList
      | none => opTmps o.op.operands.toList
    | none => opTmps o.op.operands.toList
/-- Masks of what is ahead of each. -/
def ancOne (tbl : Tr Nat) : List Edge → Nat → Nat
  | [], m => m
  | e :: r, m => match Region.binds .any e with
    | true => match tbl.get e.on with
      | some k => ancOne tbl r (m ||| (k ||| 2 ^ e.on))
      | none => ancOne tbl r (m ||| 2 ^ e.on)
    | false => ancOne tbl r m
def ancAll : List Oper → Nat → Tr Nat → Tr Nat
  | [], _, tbl => tbl
  | o :: r, i, tbl => ancAll r (i + 1) (tbl.set i (ancOne tbl o.after.toList 0))
def ancOf (tbl : Tr Nat) (i : Nat) : Nat := match tbl.get i with | some m => m | none => 0
/-- How many of these numbers, in order, a mask holds up to the last one that it holds. -/
def reach (m : Nat) : List Nat → Nat → Nat → Nat
  | [], _, best => best
  | e :: r, k, best => reach m r (k + 1) (match Nat.testBit m e with | true => k | false => best)
def filterBit (m : Nat) : List Nat → List Nat
  | [] => []
  | y :: r => match Nat.testBit m y with | true => y :: filterBit m r | false => filterBit m r
def mkPI (m : Nat) (efs news : List Nat) (flt : Bool) (i : Nat) : PI := ⟨i, flt, (match flt with | true => reach m efs 1 0 | false => 0), filterBit m news⟩
/-- The floats that one waits for. -/
def takeF (tbl : Tr Nat) (m : Nat) (efs news : List Nat) : List Nat → List PI → List Nat → List PI × List Nat
  | [], acc, rest => (acc.reverse, rest.reverse)
  | i :: r, acc, rest => match Nat.testBit m i with
    | true => takeF tbl m efs news r (mkPI (ancOf tbl i) efs news true i :: acc) rest
    | false => takeF tbl m efs news r acc (i :: rest)
def planGo (tbl : Tr Nat) (efs news : List Nat) : List Nat → List Nat → List PI
  | [], fl => fl.map fun i => mkPI (ancOf tbl i) efs news true i
  | e :: es, fl => let p := takeF tbl (ancOf tbl e) efs news fl [] []; p.1 ++ (mkPI (ancOf tbl e) efs news false e :: planGo tbl efs news es p.2)
def splitF : List Oper → Nat → List Nat × List Nat
  | [], _ => ([], [])
  | o :: r, i => let p := splitF r (i + 1); match isFloat o.op with | true => (i :: p.1, p.2) | false => (p.1, i :: p.2)
/-- What may make something. -/
def mayNew : Op → Bool
  | .alloc _ | .box .. | .buildSlice .. | .makeMap .. | .convert .. | .slice .. | .binOp .. => true
  | _ => false
def newsOf : List Oper → Nat → List Nat
  | [], _ => []
  | o :: r, i => match mayNew o.op with | true => i :: newsOf r (i + 1) | false => newsOf r (i + 1)
/-- Is every edge's end there already? -/
def edgesIn (sched : Nat) : List Edge → Bool
  | [] => true
  | e :: r => match Region.binds .any e with
    | true => match Nat.testBit sched e.on with | true => edgesIn sched r | false => false
    | false => edgesIn sched r
def bitsIn (m : Nat) : List Nat → Bool
  | [] => true
  | e :: r => match Nat.testBit m e with | true => bitsIn m r | false => false
/-- The order keeps what it must. 'efs': what turns something, so far. -/
def orderOk (ops : Array Oper) (tbl : Tr Nat) : List PI → Nat → List Nat → List Nat → Bool
  | [], sched, _, _ => Nat.beq sched (2 ^ ops.size - 1)
  | p :: r, sched, done, efs => match ops[p.i]? with
    | none => false
    | some o => match Nat.testBit sched p.i, edgesIn sched o.after.toList, bitsIn (ancOf tbl p.i) p.al with
      | false, true, true => match p.flt with
        | true => match isFloat o.op, Nat.ble p.a efs.length, bitsIn (ancOf tbl p.i) (efs.take p.a) with
          | true, true, true => orderOk ops tbl r (sched ||| 2 ^ p.i) (p.i :: done) efs
          | _, _, _ => false
        | false => match isFloat o.op, bitsIn (ancOf tbl p.i) done with
          | false, true => orderOk ops tbl r (sched ||| 2 ^ p.i) (p.i :: done) (efs ++ [p.i])
          | _, _ => false
      | _, _, _ => false
/-- No slot is written twice, and who writes and who reads a slot are in order. -/
def apart1 (tbl : Tr Nat) (i : Nat) (di : Option Nat) (ri : List Nat) : List (Nat × Option Nat × List Nat) → Bool
  | [] => true
  | (j, dj, rj) :: r =>
    match (match di with
      | none => true
      | some d => match (match dj with | some d' => Nat.beq d d' | none => false) with
        | true => false
        | false => match memN d rj with | true => Nat.testBit (ancOf tbl j) i | false => true) with
    | true => match (match dj with
        | none => true
        | some d => match memN d ri with | true => Nat.testBit (ancOf tbl j) i | false => true) with
      | true => apart1 tbl i di ri r
      | false => false
    | false => false
def apartAll (tbl : Tr Nat) : List (Nat × Option Nat × List Nat) → Bool
  | [] => true
  | (i, d, rs) :: r => match apart1 tbl i d rs r with | true => apartAll tbl r | false => false
def touched (ops : Array Oper) : List Oper → Nat → List (Nat × Option Nat × List Nat)
  | [], _ => []
  | o :: r, i => (i, o.dst, rdsOf ops o) :: touched ops r (i + 1)
def planOf (ops : Array Oper) : Option (List PI) :=
  let tbl := ancAll ops.toList 0 .nil
  let s := splitF ops.toList 0
  let L := planGo tbl s.2 (newsOf ops.toList 0) s.2 s.1
  match orderOk ops tbl L 0 [] [], apartAll tbl (touched ops ops.toList 0) with
  | true, true => some L
  | _, _ => none

/-! Are two values the same? -/
mutual
def AV.eqb : AV → AV → Bool
  | .bool a, .bool b => a == b
  | .int k n, .int k' n' => if k = k' then (if n = n' then true else false) else false
  | .sym a c, .sym b d => Nat.beq a b && (if c = d then true else false)
  | .str a, .str b => a == b
  | .txt a, .txt b => Nat.beq a b
  | .ptr a o, .ptr b o' => Nat.beq a b && Nat.beq o o'
  | .nptr, .nptr => true
  | .sl a o n c, .sl b o' n' c' => Nat.beq a b && Nat.beq o o' && Nat.beq n n' && Nat.beq c c'
  | .slu a o q n c, .slu b o' q' n' c' => Nat.beq a b && Nat.beq o o' && Nat.beq q q' && Nat.beq n n' && Nat.beq c c'
  | .nsl, .nsl => true
  | .map a, .map b => Nat.beq a b
  | .nmap, .nmap => true
  | .fn f a c, .fn f' a' c' => (if f = f' then true else false) && AV.eqbL a a' && AV.eqbL c c'
  | .nfn, .nfn => true
  | .iface t v, .iface t' v' => Nat.beq t t' && AV.eqb v v'
  | .nif, .nif => true
  | .agg a, .agg b => AV.eqbL a b
  | .tup a, .tup b => AV.eqbL a b
  | _, _ => false
def AV.eqbL : List AV → List AV → Bool
  | [], [] => true
  | a :: r, b :: s => AV.eqb a b && AV.eqbL r s
  | _, _ => false
end
def optB : Option Nat → Option Nat → Bool
  | none, none => true
  | some a, some b => Nat.beq a b
  | _, _ => false
def FR.eqb : FR → FR → Bool
  | .val v, .val u => AV.eqb v u
  | .new (.cells c r) (.slu n), .new (.cells c' r') (.slu n') => AV.eqbL c c' && optB r r' && Nat.beq n n'
  | _, _ => false
/-- With some of what the floats have made. -/
def addN (base : Nat) (nw : Tr AO) : List Nat → St → St
  | [], σ => σ
  | y :: r, σ => match nw.get y with
    | some ob => match σ.heap.get (base + y) with
      | none => addN base nw r ⟨σ.heap.set (base + y) ob, σ.next⟩
      | some _ => addN base nw r σ
    | none => addN base nw r σ
/-- The same answer over each of these memories. -/
def sameFR (P : Program) (T : Tr TypeInfo) (ev : Ev) (o : Op) (base : Nat) (al : List Nat) (nw : Tr AO) (fr : FR) : List St → Bool
  | [] => true
  | σ :: r => match fop P T (addN base nw al σ) ev o with
    | some g => match FR.eqb g fr with | true => sameFR P T ev o base al nw fr r | false => false
    | none => false
/-- What reads nothing of the memory. -/
def still : Op → Bool
  | .move _ | .assign _ | .pick .. | .alloc _ | .box .. | .build .. | .buildSlice .. | .nilCheck _ | .unOp .. | .makeInterface .. | .makeFunc .. | .makeMap .. | .fieldAddr .. | .field .. | .indexAddr .. | .index .. | .extract .. | .typeAssert .. | .sliceToArrayPointer .. => true
  | _ => false
/-- A float's answer, the same one wherever it may stand. -/
def floatT (C : Cfg) (ev : Ev) (o : Op) (base : Nat) (p : PI) (nw : Tr AO) (σ : St) (Bs : List St) : Option FR :=
  match still o with
  | true => fop C.P C.T σ ev o
  | false => match fop C.P C.T (addN base nw p.al σ) ev o with
    | some fr => match sameFR C.P C.T ev o base p.al nw fr (Bs.take (Bs.length - p.a)) with
      | true => some fr
      | false => none
    | none => none
/-- Where a plan's run stands: the slots, the memory behind the last operation that turned something, the memories ahead of each such one, what the floats have made. -/
structure PS where
  A : AA
  σ : St
  Bs : List St
  nw : Tr AO
def pFloat (C : Cfg) (base : Nat) (p : PI) (o : Oper) (rds : List Nat) (s : PS) : Option PS :=
  match floatT C (evR rds s.A) o.op base p s.nw s.σ s.Bs with
  | some (.val v) => match s.A.put o.dst v with
    | some A' => some ⟨A', s.σ, s.Bs, s.nw⟩
    | none => none
  | some (.new ob k) => match s.A.put o.dst (k.av (base + p.i)) with
    | some A' => some ⟨A', s.σ, s.Bs, s.nw.set p.i ob⟩
    | none => none
  | none => none
def pEff (C : Cfg) (ex : Ex) (base : Nat) (p : PI) (o : Oper) (rds : List Nat) (s : PS) : Option PS :=
  match effT C ex o (evR rds s.A) (addN base s.nw p.al s.σ) with
  | some (v, σ') => match s.A.put o.dst v with
    | some A' => some ⟨A', σ', s.σ :: s.Bs, s.nw⟩
    | none => none
  | none => none
def pSkip (p : PI) (o : Oper) (s : PS) : Option PS :=
  match s.A.put o.dst undA with
  | some A' => match p.flt with
    | true => some ⟨A', s.σ, s.Bs, s.nw⟩
    | false => some ⟨A', s.σ, s.σ :: s.Bs, s.nw⟩
  | none => none
def pStep (C : Cfg) (ex : Ex) (ops : Array Oper) (base : Nat) (p : PI) (s : PS) : Option PS :=
  match ops[p.i]? with
  | none => none
  | some o => match guardA ops s.A o with
    | some true => match p.flt with
      | true => pFloat C base p o (rdsOf ops o) s
      | false => pEff C ex base p o (rdsOf ops o) s
    | some false => pSkip p o s
    | none => none
/-- The plan's run. -/
def planT (C : Cfg) (ex : Ex) (ops : Array Oper) (base : Nat) : List PI → PS → Option PS
  | [], s => some s
  | p :: r, s => match pStep C ex ops base p s with
    | some s' => planT C ex ops base r s'
    | none => none

/-! ### Code -/
abbrev XR := Option (AX × AA × St)
def xSkip (_ : Ex) (_ : Cfg) (A : AA) (σ : St) : XR := some (.normal, A, σ)
def xSeqR (ops : Array Oper) (ex : Ex) (C : Cfg) (A : AA) (σ : St) : XR := match seqT C ex ops ops.toList A σ with
  | some (A, σ) => some (.normal, A, σ)
  | none => none
def xPlan (ops : Array Oper) (ex : Ex) (C : Cfg) (A : AA) (σ : St) : XR := match planOf ops with
  | some L => match planT C ex ops σ.next L ⟨A, ⟨σ.heap, σ.next + ops.size⟩, [], .nil⟩ with
    | some s => some (.normal, s.A, addN σ.next s.nw (List.range ops.size) s.σ)
    | none => none
  | none => none
def xRegion (ops : Array Oper) (draw : Bool) : Ex → Cfg → AA → St → XR := match draw with
  | false => xSeqR ops
  | true => xPlan ops
def xSeq (a b : Code) (ex : Ex) (_ : Cfg) (A : AA) (σ : St) : XR := match ex a A σ with
  | some (.normal, A, σ) => ex b A σ
  | r => r
def xCond (x : Operand) (a b : Code) (ex : Ex) (_ : Cfg) (A : AA) (σ : St) : XR := match evT A x with
  | some (.bool true) => ex a A σ
  | some (.bool false) => ex b A σ
  | _ => none
def xBlock (id : Nat) (b : Code) (ex : Ex) (_ : Cfg) (A : AA) (σ : St) : XR := match ex b A σ with
  | some (.exit id', A, σ) => match Nat.beq id' id with
    | true => some (.normal, A, σ)
    | false => some (.exit id', A, σ)
  | r => r
def xLoop (b : Code) (ex : Ex) (_ : Cfg) (A : AA) (σ : St) : XR := match ex b A σ with
  | some (.normal, A, σ) => ex (.loop b) A σ
  | r => r
def xExit (id : Nat) (_ : Ex) (_ : Cfg) (A : AA) (σ : St) : XR := some (.exit id, A, σ)
def xScope (b : Code) (ex : Ex) (_ : Cfg) (A : AA) (σ : St) : XR := ex b A σ
def xRet (_ : Ex) (_ : Cfg) (A : AA) (σ : St) : XR := some (.ret, A, σ)
def xNo (_ : Ex) (_ : Cfg) (_ : AA) (_ : St) : XR := none
def xStep (c : Code) : Ex → Cfg → AA → St → XR := match c with
  | .skip => xSkip
  | .label _ => xSkip
  | .region _ ops draw => xRegion ops draw
  | .seq a b => xSeq a b
  | .cond x a b => xCond x a b
  | .block id b => xBlock id b
  | .loop b => xLoop b
  | .exit id => xExit id
  | .scope b => xScope b
  | .ret => xRet
  | _ => xNo
def exec (C : Cfg) : Nat → Ex
  | 0 => fun _ _ _ => none
  | n + 1 => fun c A σ => xStep c (exec C n) C A σ
/-- A call. -/
def callA (C : Cfg) (n : Nat) (f : Nat) (args : List AV) (σ : St) : Option (AV × St) := callT C (exec C n) f args σ
end Go.Proofs.YtdgjcjhicbgfaaaGreat
end
