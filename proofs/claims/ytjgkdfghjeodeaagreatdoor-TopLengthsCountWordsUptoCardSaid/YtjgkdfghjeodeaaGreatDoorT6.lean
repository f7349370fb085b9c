/- Maps whose keys are listed: each key holds its place in the list. -/
import Derived.Test.YtjgkdfghjeodeaaGreatDoorT3
import Derived.Test.YtjgkdfghjeodeaaGreatDoorT4
import Derived.Test.YtjgkdfghjeodeaaGreatDoorT5
import Derived.Maps.OwnSet
import Derived.DeepKeys4
import Derived.Laws.BytesArg
namespace Go.Proofs.YtjgkdfghjeodeaaGreatDoor
open Go.RowKit Go.Maps

/-- what a key's type must give -/
structure KT {κ : Type} (kt : TypeId) (kv : κ → Value) (ok : κ → Prop) : Prop where
  K : Keyed Tryz.prog kt
  inj : ∀ a b, kv a = kv b → a = b
  ex : ∀ k, ok k → ∃ l, keyOf Tryz.prog kt (kv k) = some l

/-- block b is a map; its keys are ks, each holds its place -/
def IdMap {κ : Type} (kt : TypeId) (kv : κ → Value) (w : World) (b : Nat) (ks : List κ) : Prop :=
  ∃ D : DataW Unit, w.ownsMap Tryz.prog kt (plainElem Tryz.prog 3) b ks.length D ∧ IsMap D ∧ (∀ k l, keyOf Tryz.prog kt (kv k) = some l → (has D l = true ↔ k ∈ ks)) ∧
    ∀ k l (i : Nat), keyOf Tryz.prog kt (kv k) = some l → ks[i]? = some k → D.atKey l (.lit (.int .i64 0)) = .lit (.int .i64 (i : Int))

section
variable {κ : Type} {kt : TypeId} {kv : κ → Value} {ok : κ → Prop} {w w' : World} {b : Nat} {ks : List κ}

theorem IdMap.lt (h : IdMap kt kv w b ks) : b < w.heap.size := by
  obtain ⟨D, hD, _⟩ := h
  exact hD.lt
theorem IdMap.same (h : IdMap kt kv w b ks) (hb : w'.heap[b]? = w.heap[b]?) : IdMap kt kv w' b ks := by
  obtain ⟨D, ⟨es, clock, h1, h2⟩, h3⟩ := h
  exact ⟨D, ⟨es, clock, hb.trans h1, h2⟩, h3⟩
theorem IdMap.below (h : IdMap kt kv w b ks) (hb : Below w.heap.size w w') : IdMap kt kv w' b ks := h.same (hb.block b h.lt)
theorem IdMap.alloc (h : IdMap kt kv w b ks) (o : Obj) : IdMap kt kv (w.alloc o) b ks := h.same (Below.heap_alloc w o b h.lt)
theorem IdMap.only {g : Nat} (h : IdMap kt kv w b ks) (hb : Only g w w') (hg : b ≠ g) : IdMap kt kv w' b ks := h.same (hb.block b hg)
theorem IdMap.grown {row : Option Nat} (h : IdMap kt kv w b ks) (hg : w.grownBy w' row) (hne : row ≠ some b) : IdMap kt kv w' b ks := h.same (hg.block b h.lt (fun e => hne e.symm))
theorem IdMap.drew (h : IdMap kt kv w b ks) : IdMap kt kv w.drew b ks := h.same rfl
theorem IdMap.made (kt : TypeId) (kv : κ → Value) (w : World) : IdMap kt kv (w.alloc (.map #[] 0)) w.heap.size ([] : List κ) :=
  ⟨.map [], World.ownsMap_made w _ _ _, isMap_empty, fun k l _ => by simp [has_eq], fun k l i _ h => by simp at h⟩

theorem zero3 (w : World) : (zeroValue 3).run Tryz.prog w = .ok (.int .i64 0) w := by kernel_rfl

/-- 'id, ok := m[k]' -/
theorem wpList_lookup_id [DecidableEq κ] {ops : Array Oper} {rest : List Oper} {o : Oper} {a : Act} {Q : Exit → Act → World → Prop} (hg : o.guard = none) (m x : Operand) (t : TypeId) (hop : o.op = Op.lookup t m x true)
    (T : KT kt kv ok) (ht : Tryz.prog.underlying t = some (.map kt 3)) (hm : a.eval m = .map (some b)) (hI : IdMap kt kv w b ks) (k : κ) (hk : ok k) (hx : a.eval x = kv k)
    (hK : ∀ c : Int, (∀ i, idxK k ks 0 = some i → c = (i : Int)) → wpList Tryz.prog ops Q rest (a.put o.dst (.tuple #[.int .i64 c, .bool (idxK k ks 0).isSome])) w) : wpList Tryz.prog ops Q (o :: rest) a w := by
  obtain ⟨D, hown, hM, hh, ha⟩ := hI
  obtain ⟨l, hl⟩ := T.ex k hk
  have hs : ∀ (l : List κ) (i j : Nat), idxK k l i = some j → i ≤ j ∧ l[j - i]? = some k ∧ j < i + l.length := by
    intro l
    induction l with
    | nil => intro i j h; cases h
    | cons x r ih =>
      intro i j h
      rw [idxK] at h
      by_cases hx : x = k
      · rw [if_pos hx] at h; cases h; subst hx; simp
      · rw [if_neg hx] at h
        obtain ⟨h1, h2, h3⟩ := ih (i + 1) j h
        refine ⟨by omega, ?_, by simp; omega⟩
        rw [show j - i = (j - (i + 1)) + 1 by omega]
        simpa using h2
  have hn : ∀ (l : List κ) (i : Nat), idxK k l i = none ↔ k ∉ l := by
    intro l
    induction l with
    | nil => simp [idxK]
    | cons x r ih =>
      intro i
      rw [idxK]
      by_cases hx : x = k
      · subst hx; simp
      · rw [if_neg hx, ih (i + 1)]
        simp [Ne.symm hx]
  have hb : has D l = (idxK k ks 0).isSome := by
    rw [Bool.eq_iff_iff, hh k l hl, Option.isSome_iff_ne_none, Ne, hn]
    simp
  refine wpList_lookup_own_ok_int _ hg m x t hop kt 3 .i64 T.K ht Tryz.underlying3 (zero3 w) b ks.length D hm hown (kv k) l hx hl fun c hat _ => ?_
  rw [hb]
  refine hK c fun i hi => ?_
  obtain ⟨_, h2, _⟩ := hs ks 0 i hi
  have h3 := ha k l i hl (by simpa using h2)
  rw [hat] at h3
  simpa using h3
theorem IdMap.put_ (_hI : IdMap kt kv w b ks) (T : KT kt kv ok) {k : κ} (hnk : k ∉ ks) {l : Lit} (hl : keyOf Tryz.prog kt (kv k) = some l) {D : DataW Unit} (hM : IsMap D) (hh : ∀ k l, keyOf Tryz.prog kt (kv k) = some l → (has D l = true ↔ k ∈ ks))
    (ha : ∀ k l (i : Nat), keyOf Tryz.prog kt (kv k) = some l → ks[i]? = some k → D.atKey l (.lit (.int .i64 0)) = .lit (.int .i64 (i : Int)))
    (hw : w'.ownsMap Tryz.prog kt (plainElem Tryz.prog 3) b (ks.length + 1) (D.put l (.lit (.int .i64 (ks.length : Int))))) : IdMap kt kv w' b (ks ++ [k]) := by
  have hkl := T.K.key hl
  refine ⟨_, by rw [List.length_append]; exact hw, hM.put _ _, fun k' l' hl' => ?_, fun k' l' i hl' hi => ?_⟩
  · by_cases e : l' = l
    · subst e
      have hkk : k' = k := T.inj _ _ (T.K.inj hl' hl)
      subst hkk
      rw [has_put_same hM hkl]; simp
    · have hne : k' ≠ k := fun e' => e (by subst e'; rw [hl] at hl'; exact (Option.some.inj hl').symm)
      rw [has_put_other e, hh k' l' hl', List.mem_append]; simp [hne]
  · by_cases e : l' = l
    · subst e
      have hkk : k' = k := T.inj _ _ (T.K.inj hl' hl)
      subst hkk
      rw [atKey_put_same hM hkl]
      by_cases hi2 : i < ks.length
      · rw [List.getElem?_append_left hi2] at hi
        exact absurd (List.mem_of_getElem? hi) hnk
      · have := (List.getElem?_eq_some_iff.1 hi).1
        rw [List.length_append] at this
        simp at this
        have : i = ks.length := by omega
        rw [this]
    · have hne : k' ≠ k := fun e' => e (by subst e'; rw [hl] at hl'; exact (Option.some.inj hl').symm)
      rw [atKey_put_other e]
      refine ha k' l' i hl' ?_
      by_cases hi2 : i < ks.length
      · rwa [List.getElem?_append_left hi2] at hi
      · rw [List.getElem?_append_right (by omega)] at hi
        have := (List.getElem?_eq_some_iff.1 hi).1
        have h0 : i - ks.length = 0 := by simp at this; omega
        rw [h0] at hi
        simp at hi
        exact absurd hi.symm hne
/-- 'm[k] = len(l)' at a new key -/
theorem wpList_mapUpdate_id {ops : Array Oper} {rest : List Oper} {o : Oper} {a : Act} {Q : Exit → Act → World → Prop} (hg : o.guard = none) (m x v : Operand) (t : TypeId) (hop : o.op = Op.mapUpdate t m x v)
    (T : KT kt kv ok) (ht : Tryz.prog.underlying t = some (.map kt 3)) (hm : a.eval m = .map (some b)) (hI : IdMap kt kv w b ks) (k : κ) (hk : ok k) (hnk : k ∉ ks) (hx : a.eval x = kv k) (hv : a.eval v = .int .i64 (ks.length : Int)) (hlen : ks.length < 9223372036854775807)
    (hK : ∀ w', IdMap kt kv w' b (ks ++ [k]) → w.grownBy w' (some b) → wpList Tryz.prog ops Q rest (a.put o.dst undef) w') : wpList Tryz.prog ops Q (o :: rest) a w := by
  obtain ⟨D, hown, hM, hh, ha⟩ := hI
  obtain ⟨l, hl⟩ := T.ex k hk
  refine wpList_mapUpdate_own _ hg m x v t hop kt 3 T.K ht _ b ks.length D hm hown (by unfold maxLen; omega) (kv k) _ l hx hv hl (.lit (.int .i64 (ks.length : Int))) [] (plainElem_int Tryz.underlying3 (WalkArith.wf_i64 (by omega))) fun w' hw' hgr => ?_
  exact hK w' (IdMap.put_ ⟨D, hown, hM, hh, ha⟩ T hnk hl hM hh ha hw') hgr
end

-- the key types
theorem laidOutZ : laidOutB Tryz.prog = true := by kernel_rfl
theorem cells3 : Tryz.prog.cellsOf 3 = 1 := by kernel_rfl
theorem cells54 : Tryz.prog.cellsOf 54 = 1 := by kernel_rfl
theorem cells126 : Tryz.prog.cellsOf 126 = 1 := by kernel_rfl
theorem cells163 : Tryz.prog.cellsOf 163 = 2 := by kernel_rfl
theorem cells128 : Tryz.prog.cellsOf 128 = 3 := by kernel_rfl
/-- strings of bytes -/
def strV (l : List Nat) : Value := .string (strOfNums (l.map fun (n : Nat) => (n : Int)))
theorem strV_inj : ∀ (a b : List Nat), (∀ x ∈ a, x < 256) → (∀ x ∈ b, x < 256) → a.map (fun n : Nat => UInt8.ofNat n) = b.map (fun n : Nat => UInt8.ofNat n) → a = b
  | [], [], _, _, _ => rfl
  | [], _ :: _, _, _, h => by simp at h
  | _ :: _, [], _, _, h => by simp at h
  | x :: a, y :: b, ha, hb, h => by
    simp only [List.map_cons, List.cons.injEq] at h
    have h1 := congrArg UInt8.toNat h.1
    have hx := ha x (by simp)
    have hy := hb y (by simp)
    simp only [UInt8.toNat_ofNat'] at h1
    rw [Nat.mod_eq_of_lt hx, Nat.mod_eq_of_lt hy] at h1
    rw [h1, strV_inj a b (fun z hz => ha z (List.mem_cons_of_mem _ hz)) (fun z hz => hb z (List.mem_cons_of_mem _ hz)) h.2]
abbrev BL := { l : List Nat // ∀ x ∈ l, x < 256 }
theorem kt_str : KT 9 (fun l : BL => strV l.1) (fun l => l.1.length ≤ 9223372036854775807) where
  K := string_keyed Tryz.underlying9
  inj a b h := by
    obtain ⟨a, ha⟩ := a
    obtain ⟨b, hb⟩ := b
    simp only [strV, Value.string.injEq] at h
    have h1 := congrArg (fun s => s.data.toList) h
    simp only [strOfNums_data, List.map_map] at h1
    exact Subtype.ext (strV_inj a b ha hb (by simpa [Function.comp_def] using h1))
  ex k hk := ⟨_, Go.WideMaps.keyOf_string_mk Tryz.underlying9 (by rw [strOfNums_size, List.length_map]; exact hk)⟩
theorem wf_nat {n : Nat} (h : n < 9223372036854775808) : (Lit.int .i64 (n : Int)).wf = true := WalkArith.wf_i64 (by omega)
theorem wf_nat64 {n : Nat} (h : n < 18446744073709551616) : (Lit.int .u64 (n : Int)).wf = true := by
  simp [Lit.wf, IntKind.min, IntKind.max, IntKind.signed, IntKind.bits]; omega
theorem typesZ : ∃ m, Tryz.prog.types.size = m + 2 := ⟨Tryz.prog.types.size - 2, by
  have : 2 ≤ Tryz.prog.types.size := of_decide_eq_true (by kernel_rfl)
  omega⟩
theorem keyLits_int {P : Program} {t : TypeId} {q : IntKind} {n : Int} (d : Nat) (h : P.underlying t = some (.int q)) (hw : (Lit.int q n).wf = true) : P.keyLits (d + 1) t [.int q n] = some [.int q n] := by
  simp [Program.keyLits, h, hw]
theorem keyLits_array {P : Program} {t e : TypeId} {n : Nat} (d : Nat) (cs : List Value) (h : P.underlying t = some (.array n e)) (hl : cs.length = P.cellsOf t) : P.keyLits (d + 1) t cs = ((List.range n).mapM fun i => P.keyLits d e ((cs.drop (i * P.cellsOf e)).take (P.cellsOf e))).map List.flatten := by
  simp only [Program.keyLits, h, hl, if_true]
theorem keyLits_struct {P : Program} {t : TypeId} {fs : Array Field} (d : Nat) (cs : List Value) (h : P.underlying t = some (.struct fs)) (hl : cs.length = P.cellsOf t) (hb : fs.all (·.name != "_") = true) : P.keyLits (d + 1) t cs = (fs.toList.mapM fun f => P.keyLits d f.type ((cs.drop f.offset).take (P.cellsOf f.type))).map List.flatten := by
  simp only [Program.keyLits, h, hl, hb, and_self, if_true]
def pairV (k : Nat × Nat) : Value := .agg #[.int .i64 (k.1 : Int), .int .i64 (k.2 : Int)]
theorem kt_pair : KT 163 pairV (fun k => k.1 < 9223372036854775808 ∧ k.2 < 9223372036854775808) where
  K := Keyed.of_law (deep_law_laid laidOutZ (m := 2) (by omega) (of_decide_eq_true (by kernel_rfl)) (by kernel_rfl) (by rw [Tryz.underlying163]))
  inj a b h := by
    simp [pairV] at h
    exact Prod.ext (by omega) (by omega)
  ex k hk := by
    have w1 := wf_nat hk.1
    have w2 := wf_nat hk.2
    have hk1 : Tryz.prog.keyType 163 = true := by kernel_rfl
    obtain ⟨m, hm⟩ := typesZ
    have e1 : ∀ d, Tryz.prog.keyLits (d + 2) 163 (pairV k).cells.toList = some [.int .i64 (k.1 : Int), .int .i64 (k.2 : Int)] := fun d => by
      have h1 := keyLits_int d Tryz.underlying3 w1
      have h2 := keyLits_int d Tryz.underlying3 w2
      rw [keyLits_array (d + 1) _ Tryz.underlying163 (by rw [cells163]; rfl)]
      simp only [cells3, pairV, Value.cells, show List.range 2 = [0, 1] from rfl]
      simp [h1, h2]
    have hf : (pairV k).formed Tryz.prog 163 = true := by simp [Value.formed, pairV, Tryz.underlying163, cells163]
    exact ⟨_, by rw [keyOf, Tryz.underlying163]; simp only [hk1, hf, Bool.and_self, if_true]; rw [hm, e1]; rfl⟩
def stV (s : St) : Value := .agg #[.int .i64 (s.p : Int), .int .i64 (s.q : Int), .int .u64 (s.s : Int)]
theorem kt_st : KT 128 stV (fun s => s.p < 9223372036854775808 ∧ s.q < 9223372036854775808 ∧ s.s < 18446744073709551616) where
  K := Keyed.of_law (deep_law_laid laidOutZ (m := 3) (by omega) (of_decide_eq_true (by kernel_rfl)) (by kernel_rfl) (by rw [Tryz.underlying128]))
  inj a b h := by
    obtain ⟨p, q, s⟩ := a
    obtain ⟨p', q', s'⟩ := b
    simp [stV] at h
    simp; omega
  ex k hk := by
    have w1 := wf_nat hk.1
    have w2 := wf_nat hk.2.1
    have w3 := wf_nat64 hk.2.2
    have hk1 : Tryz.prog.keyType 128 = true := by kernel_rfl
    obtain ⟨m, hm⟩ := typesZ
    have e1 : ∀ d, Tryz.prog.keyLits (d + 3) 128 (stV k).cells.toList = some [.int .i64 (k.p : Int), .int .i64 (k.q : Int), .int .u64 (k.s : Int)] := fun d => by
      have h1 := keyLits_int (d + 1) Tryz.underlying3 w1
      have h2 := keyLits_int (d + 1) Tryz.underlying3 w2
      have h3 := keyLits_int d Tryz.underlying54 w3
      have h4 : Tryz.prog.keyLits (d + 2) 126 [.int .u64 (k.s : Int)] = some [.int .u64 (k.s : Int)] := by
        rw [keyLits_array (d + 1) _ Tryz.underlying126 (by rw [cells126]; rfl)]
        simp only [cells54, show List.range 1 = [0] from rfl]
        simp [h3]
      rw [keyLits_struct (d + 2) _ Tryz.underlying128 (by rw [cells128]; rfl) (by decide +kernel)]
      simp only [stV, Value.cells]
      simp [h1, h2, h4, cells3, cells126]
    have hf : (stV k).formed Tryz.prog 128 = true := by simp [Value.formed, stV, Tryz.underlying128, cells128]
    obtain ⟨m', hm'⟩ : ∃ m', m + 2 + 1 = m' + 3 := ⟨m, rfl⟩
    exact ⟨_, by rw [keyOf, Tryz.underlying128]; simp only [hk1, hf, Bool.and_self, if_true]; rw [hm, e1]; rfl⟩
theorem kt_u64 : KT 54 (fun n : Nat => Value.int .u64 (n : Int)) (fun n => n < 18446744073709551616) where
  K := int_keyed Tryz.underlying54
  inj a b h := by simp at h; omega
  ex k hk := ⟨_, keyOf_int_mk Tryz.underlying54 (wf_nat64 hk)⟩
/-- bytes in memory -/
def u8s (l : List Nat) : List Value := l.map fun (b : Nat) => Value.int .u8 (b : Int)
/-- string(b) -/
theorem run_toString (w : World) {K : Nat → Prop} {A : Option Addr} {n c : Nat} {l : List Nat} (hl : l.length = n) (h : Sl w K A (u8s l)) : (convert 22 9 (.slice A n c)).run Tryz.prog w = .ok (strV l) w := by
  cases l with
  | nil =>
    have h0 : n = 0 := by rw [← hl]; rfl
    subst h0
    rw [run_convert_bytes_string w 22 9 5 A 0 c Tryz.underlying22 Tryz.underlying5 Tryz.underlying9]
    cases A with
    | none => simp [Conv.bytesToString, strV, strOfNums]; rfl
    | some a =>
      have h1 : (loadCells a 0).run Tryz.prog w = .ok (([] : List Int).map (Value.int .u8)).toArray w := run_loadCells_list (P := Tryz.prog) w a [] (fun j v hj => by simp at hj)
      rw [run_bytesToString w a 0 c [] h1]; rfl
  | cons x r =>
    obtain ⟨ad, rfl, _, _⟩ := h 0 _ rfl
    have h1 : (loadCells ad n).run Tryz.prog w = .ok (((x :: r).map fun (b : Nat) => (b : Int)).map (Value.int .u8)).toArray w := by
      have := run_loadCells_list (P := Tryz.prog) w ad (u8s (x :: r)) (fun j v hj => by
        obtain ⟨ad', e, _, hc⟩ := h j v hj
        cases e; exact hc)
      rw [show (u8s (x :: r)).length = n by simp only [u8s, List.length_map]; exact hl] at this
      rw [this]
      simp [u8s, Function.comp_def]
    rw [run_convert_bytes_string w 22 9 5 _ n c Tryz.underlying22 Tryz.underlying5 Tryz.underlying9, run_bytesToString w ad n c _ h1, foldl_push_bytes]
    simp [strV, strOfNums, ByteArray.empty, ByteArray.emptyWithCapacity]
    rfl
theorem wpList_toString {w : World} {ops : Array Oper} {rest : List Oper} {o : Oper} {a : Act} {Q : Exit → Act → World → Prop} (hgd : o.guard = none) (x : Operand) (ho : o.op = .convert 22 9 x) {K : Nat → Prop} {A : Option Addr} {n c : Nat} {l : List Nat} (hx : a.eval x = .slice A n c) (hl : l.length = n) (h : Sl w K A (u8s l))
    (hK : wpList Tryz.prog ops Q rest (a.put o.dst (strV l)) w) : wpList Tryz.prog ops Q (o :: rest) a w := by
  refine wpList_plain hgd fun _ hK' => ?_
  unfold Oper.wp execOp
  simp only [ho, hx, Sem.run_bind, Sem.run_pure, Result.andThen_ok, run_toString w hl h]
  exact hK' _ _ hK
end Go.Proofs.YtjgkdfghjeodeaaGreatDoor
