/- Memory that is made, its block named; lists as cells. -/
import Derived.Test.YtjgkdfghjeodeaaGreatDoorT8
import Derived.Test.YtjgkdfghjeodeaaGreatDoorT9
namespace Go.Proofs.YtjgkdfghjeodeaaGreatDoor
open Go.RowKit

theorem info3 : (Tryz.prog.info? 3).map (fun i => (i.zero, i.size, i.bytes)) = some (some (.int .i64 0), 1, 8) := by kernel_rfl
theorem info4 : (Tryz.prog.info? 4).map (fun i => (i.zero, i.size, i.bytes)) = some (some (.bool false), 1, 1) := by kernel_rfl
theorem info64 : (Tryz.prog.info? 64).map (fun i => (i.zero, i.size, i.bytes)) = some (some (.slice none 0 0), 1, 24) := by kernel_rfl
theorem app64 : AppT Tryz.prog 64 3 8 := AppT.of (.int .i64 0) Tryz.underlying64 info3 rfl
theorem app26 : AppT Tryz.prog 26 4 1 := AppT.of (.bool false) Tryz.underlying26 info4 rfl
theorem app25 : AppT Tryz.prog 25 64 24 := AppT.of (.slice none 0 0) Tryz.underlying25 info64 rfl
theorem app22 : AppT Tryz.prog 22 5 1 := AppT.of (.int .u8 0) Tryz.underlying22 info5 rfl
theorem app24 : AppS Tryz.prog 24 56 4 32 := AppS.of (.agg #[vu 0, vu 0, vu 0, vu 0]) (by decide) Tryz.underlying24 (by kernel_rfl) rfl
/-- bools in memory -/
def vbs (l : List Bool) : Array Value := (l.map Value.bool).toArray
theorem vbs_size (l : List Bool) : (vbs l).size = l.length := by simp [vbs]
theorem vbs_get {l : List Bool} {i : Nat} (h : i < l.length) : (vbs l)[i]? = some (.bool (l.getD i false)) := by simp [vbs, h]
theorem vbs_set (l : List Bool) (i : Nat) (x : Bool) : (vbs l).setIfInBounds i (.bool x) = vbs (l.set i x) := by simp [vbs, List.map_set]
theorem vbs_rep (n : Nat) (x : Bool) : (List.replicate n (Value.bool x)).toArray = vbs (List.replicate n x) := by simp [vbs]
/-- numbers in memory, as an array -/
def via (l : List Nat) : Array Value := (vis l).toArray
theorem via_size (l : List Nat) : (via l).size = l.length := by simp [via, vis_len]
theorem via_get {l : List Nat} {i : Nat} (h : i < l.length) : (via l)[i]? = some (vi (l.getD i 0)) := by simp [via, vis, h]
theorem via_set (l : List Nat) (i x : Nat) : (via l).setIfInBounds i (vi x) = via (l.set i x) := by simp [via, vis, List.map_set]
theorem via_rep (n : Nat) : (List.replicate n (Value.int .i64 0)).toArray = via (List.replicate n 0) := by simp [via, vis]
theorem via_list (l : List Nat) : (via l).toList = vis l := by simp [via]

section
variable {P : Program} {w : World} {ops : Array Oper} {rest : List Oper} {o : Oper} {a : Act} {Q : Exit → Act → World → Prop}
theorem wpList_makeFullG (g : Nat) (hg : w.heap.size = g) (hgd : o.guard = none) (x y : Operand) (t : TypeId)
    (ho : o.op = .makeSlice t x y) {e : TypeId} {b : Nat} (z : Value) (ht : P.underlying t = some (.slice e)) (hinfo : (P.info? e).map (fun i => (i.zero, i.size, i.bytes)) = some (some z, 1, b)) (hz1 : z.cells = #[z])
    (n : Nat) (hx : a.eval x = .int .i64 (n : Int)) (hy : a.eval y = .int .i64 (n : Int)) (hb : b * n ≤ 281474976710656) (hn : n ≤ 9223372036854775807)
    (h : ∀ w', Blk w' g e (List.replicate n z).toArray → Below w.heap.size w w' → w'.heap.size = g + 1 → wpList P ops Q rest (a.put o.dst (.slice (some ⟨g, 0, none⟩) n n)) w') : wpList P ops Q (o :: rest) a w := by
  subst hg
  exact wpList_makeFull hgd x y t ho z ht hinfo hz1 n hx hy hb hn h
theorem wpList_box_rowG (g : Nat) (hg : w.heap.size = g) (hgd : o.guard = none) (ty : TypeId) (x : Operand) (ho : o.op = .box ty x) (cs : Array Value) (hx : a.eval x = .agg cs)
    (h : ∀ w', Blk w' g ty cs → Below w.heap.size w w' → w'.heap.size = g + 1 → wpList P ops Q rest (a.put o.dst (.pointer (some ⟨g, 0, none⟩))) w') : wpList P ops Q (o :: rest) a w := by
  subst hg
  exact wpList_box_row hgd ty x ho cs hx h
theorem wpList_alloc_rowG (g : Nat) (hg : w.heap.size = g) (hgd : o.guard = none) (ty : TypeId) (ho : o.op = .alloc ty) (z : Array Value) (hz : ∀ w, (zeroValue ty).run P w = .ok (.agg z) w)
    (h : ∀ w', Blk w' g ty z → Below w.heap.size w w' → w'.heap.size = g + 1 → wpList P ops Q rest (a.put o.dst (.pointer (some ⟨g, 0, none⟩))) w') : wpList P ops Q (o :: rest) a w := by
  subst hg
  exact wpList_alloc_row hgd ty ho z hz h
end
/-- a table in a block of its own: what its fields read -/
theorem tab_fields {w : World} {K : Nat → Prop} {cs : Array Value} {t : Tbl} (h : RT w K cs t) : ∃ A2 A3 c2 c3, cs = tcells t A2 A3 c2 c3 ∧ RR w K A2 t.nxt.length c2 t.nxt ∧ RL_ w K A3 t.acc.length c3 t.acc ∧ t.cell.length = 256 ∧ t.cells ≤ 1048576 ∧ Lt 1048577 t.cell := by
  obtain ⟨A2, A3, c2, c3, e, e1, e2, e3, h2, h3⟩ := h
  exact ⟨A2, A3, c2, c3, e, h2, h3, e1, e2, e3⟩

/-- reads, one behind the other, whatever world of S they are read in -/
def RdC (P : Program) (S : World → Prop) : List Oper → Act → (Act → Prop) → Prop
  | [], a, K => K a
  | o :: r, a, K => ∃ v, (∀ W, S W → (execOp a.eval o).run P W = .ok (.value v) W) ∧ RdC P S r (a.put o.dst v) K
theorem RdC.ex {P : Program} {S : World → Prop} : ∀ {l : List Oper} {a : Act} {K : Act → Prop}, RdC P S l a K → ∃ vs, (∀ W, S W → RdL P l vs a W) ∧ K (putL l vs a)
  | [], a, K, h => ⟨[], fun _ _ => trivial, h⟩
  | o :: r, a, K, ⟨v, h1, h2⟩ => by
    obtain ⟨vs, h3, h4⟩ := RdC.ex h2
    exact ⟨v :: vs, fun W hW => ⟨h1 W hW, h3 W hW⟩, h4⟩
/-- **A drawn region: its first r operations read what S says, the others are a chain; behind number z all have been read.** -/
theorem wp_region_rd {P : Program} {Q : Exit → Act → World → Prop} {id : Nat} {a : Act} {w : World} {l : List Oper} (hm : P.follows .mixedOrders = true) (r z : Nat) (S : World → Prop)
    (hB : (Region.noSelect l.toArray && ((l.all fun o => o.guard.isNone) && (readB .any l.toArray z (List.range' 0 r) (Array.replicate l.length false) && (endB .any l.toArray (List.range' r (l.length - r)) (setAll (Array.replicate l.length false) (List.range' 0 r)) && decide (r ≤ l.length))))) = true)
    (hQ : ∀ c (a : Act) d v w, Q (.panic c) (a.put d v) w → Q (.panic c) a w)
    (hS : S w.drew) (h : RdC P S (l.take r) a fun a' => chainW P Q S (z - r) (l.drop r) a' w.drew) : (Code.region id l.toArray true).wp P Q a w := by
  obtain ⟨vs, h1, h2⟩ := h.ex
  exact wp_region_reads hm r z vs S hB hQ hS h1 h2
theorem list_anyD {P : Program} {ops : Array Oper} {Q : Exit → Act → World → Prop} {md : Region.Mode} {S : World → Prop} {z : Nat} : ∀ (c : List Nat) (l : List Oper) (i0 : Nat) (listed : Array Bool) (a : Act) (w : World), All2 ops c l → c = List.range' i0 c.length → z ≤ i0 → endB md ops c listed = true → wpList P ops Q l a w → wpAnyD P md ops Q S z c.length listed a w
  | _, _, i0, listed, a, w, .nil, _, _, hB, h => ⟨by simpa [endB] using hB, h⟩
  | _, _, i0, listed, a, w, .cons (i := i) (o := o) (r := r) (l := l) hi t, hc, hz, hB, h => by
    rw [endB, Bool.and_eq_true, decide_eq_true_eq] at hB
    rw [List.length_cons, List.range'_succ, List.cons.injEq] at hc
    obtain ⟨rfl, hc⟩ := hc
    refine ⟨fun h0 => (by rw [hB.1] at h0; cases h0), fun j hj => ?_⟩
    rw [hB.1] at hj
    obtain rfl : j = i := by simpa using hj
    refine wpOp_mono (fun a' w' h' => ⟨fun hjz => by omega, ?_⟩) (K := wpList P ops Q l) ?_
    · exact list_anyD r l (j + 1) _ a' w' t hc (by omega) hB.2 h'
    · unfold wpOp
      simp only [hi]
      exact h
/-- a list, behind whose first k operations S holds -/
def wpListS (P : Program) (ops : Array Oper) (Q : Exit → Act → World → Prop) (S : World → Prop) : Nat → List Oper → Act → World → Prop
  | 0, l, a, w => wpList P ops Q l a w
  | _ + 1, [], a, w => Q .normal a w
  | k + 1, o :: r, a, w => wpList P ops (segQ Q fun a' w' => S w' ∧ wpListS P ops Q S k r a' w') [o] a w
theorem listS_anyD {P : Program} {ops : Array Oper} {Q : Exit → Act → World → Prop} {md : Region.Mode} {S : World → Prop} {z : Nat} : ∀ (c : List Nat) (l : List Oper) (k i0 : Nat) (listed : Array Bool) (a : Act) (w : World), All2 ops c l → c = List.range' i0 c.length → k = z - i0 → endB md ops c listed = true → wpListS P ops Q S k l a w → wpAnyD P md ops Q S z c.length listed a w
  | _, _, 0, i0, listed, a, w, .nil, hc, hk, hB, h => list_anyD _ _ i0 listed a w .nil hc (by omega) hB h
  | _, _, 0, i0, listed, a, w, .cons hi t, hc, hk, hB, h => list_anyD _ _ i0 listed a w (.cons hi t) hc (by omega) hB h
  | _, _, k + 1, i0, listed, a, w, .nil, _, _, hB, h => ⟨by simpa [endB] using hB, h⟩
  | _, _, k + 1, i0, listed, a, w, .cons (i := i) (o := o) (r := r) (l := l) hi t, hc, hk, hB, h => by
    rw [endB, Bool.and_eq_true, decide_eq_true_eq] at hB
    rw [List.length_cons, List.range'_succ, List.cons.injEq] at hc
    obtain ⟨rfl, hc⟩ := hc
    refine ⟨fun h0 => (by rw [hB.1] at h0; cases h0), fun j hj => ?_⟩
    rw [hB.1] at hj
    obtain rfl : j = i := by simpa using hj
    have h2 : wpOp P ops (segQ Q fun a' w' => S w' ∧ wpListS P ops Q S k l a' w') j (fun a' w' => S w' ∧ wpListS P ops Q S k l a' w') a w := by
      unfold wpOp
      simp only [hi]
      exact h
    refine wpOp_mono (fun a' w' h' => ⟨fun _ => h'.1, ?_⟩) (wpOp_seg h2)
    exact listS_anyD r l k (j + 1) _ a' w' t hc (by omega) hB.2 h'.2
/-- **.. behind whose first operations S holds still.** -/
theorem wp_region_rs {P : Program} {Q : Exit → Act → World → Prop} {id : Nat} {a : Act} {w : World} {l : List Oper} (hm : P.follows .mixedOrders = true) (r z : Nat) (S : World → Prop)
    (hB : (Region.noSelect l.toArray && ((l.all fun o => o.guard.isNone) && (readB .any l.toArray z (List.range' 0 r) (Array.replicate l.length false) && (endB .any l.toArray (List.range' r (l.length - r)) (setAll (Array.replicate l.length false) (List.range' 0 r)) && decide (r ≤ l.length))))) = true)
    (hQ : ∀ c (a : Act) d v w, Q (.panic c) (a.put d v) w → Q (.panic c) a w)
    (hS : S w.drew) (h : RdC P S (l.take r) a fun a' => wpListS P l.toArray Q S (z - r) (l.drop r) a' w.drew) : (Code.region id l.toArray true).wp P Q a w := by
  obtain ⟨vs, hR, h⟩ := h.ex
  simp only [Bool.and_eq_true, decide_eq_true_eq] at hB
  obtain ⟨h1, h2, h3, h4, h5⟩ := hB
  have hg : ∀ (i : Nat) o, l.toArray[i]? = some o → o.guard = none := fun i o ho => by
    have := List.all_eq_true.1 h2 o (List.mem_of_getElem? (by simpa using ho))
    simpa using this
  have l1 : (l.take r).length = r := by simp; omega
  have l2 : (l.drop r).length = l.length - r := by simp
  have a1 : All2 l.toArray (List.range' 0 r) (l.take r) := by
    have := all2_part (ops := l.toArray) (l.take r) 0 fun j hj => by
      rw [List.getElem?_take, if_pos (by omega)]; simp
    rwa [l1] at this
  have a2 : All2 l.toArray (List.range' r (l.length - r)) (l.drop r) := by
    have := all2_part (ops := l.toArray) (l.drop r) r fun j hj => by
      rw [List.getElem?_drop]; simp
    rwa [l2] at this
  have c1 := listS_anyD (md := .any) (S := S) _ _ (z - r) r _ _ _ a2 (by rw [List.length_range']) rfl h4 h
  rw [List.length_range'] at c1
  have c2 := reads_any (md := .any) h1 hg hQ hS _ _ _ vs _ a a1 h3 rfl hR c1
  rw [List.length_range', show r + (l.length - r) = l.length by omega] at c2
  exact wp_region_any hm (by simpa using wpAny_of_D _ _ _ _ c2)
/-! ### .. where one waits for another through a third -/
section
variable {P : Program} {ops : Array Oper} {Q : Exit → Act → World → Prop} {md : Region.Mode} {S : World → Prop}
/-- j waits for i, perhaps through others -/
def waitsB (md : Region.Mode) (ops : Array Oper) (i : Nat) : Nat → Nat → Bool
  | 0, _ => false
  | f + 1, j => match ops[j]? with
    | some o => o.after.any fun e => Region.binds md e && (e.on == i || waitsB md ops i f e.on)
    | none => false
def lateB2 (md : Region.Mode) (ops : Array Oper) (z i : Nat) : Bool := (List.range ops.size).all fun j => decide (j < z) || waitsB md ops i 9 j
/-- whoever is listed, those he waits for are -/
def Shut (md : Region.Mode) (ops : Array Oper) (listed : Array Bool) : Prop := ∀ (k : Nat) (o : Oper), ops[k]? = some o → listed.getD k false = true → ∀ e ∈ o.after, Region.binds md e = true → listed.getD e.on false = true
theorem getD_set_f {l : Array Bool} {i j : Nat} (h : l.getD j false = true) : (l.setIfInBounds i true).getD j false = true := by
  simp only [Array.getD_eq_getD_getElem?, Array.getElem?_setIfInBounds] at *
  by_cases hij : i = j
  · subst hij
    rcases Nat.lt_or_ge i l.size with h' | h'
    · simp [h']
    · simp [Array.getElem?_eq_none h'] at h
  · simp [hij, h]
theorem ready_pred {i : Nat} {o : Oper} {listed : Array Bool} (hr : i ∈ Region.ready md ops listed) (ho : ops[i]? = some o) : ∀ e ∈ o.after, Region.binds md e = true → listed.getD e.on false = true := by
  obtain ⟨_, o', ho', hall⟩ := mem_ready.1 hr
  rw [ho] at ho'
  cases ho'
  intro e he hb
  have := hall e he hb
  simpa using this
theorem Shut.put {listed : Array Bool} (h : Shut md ops listed) {i : Nat} (hr : i ∈ Region.ready md ops listed) : Shut md ops (listed.setIfInBounds i true) := fun k o ho hk e he hb => by
  by_cases hik : i = k
  · subst hik
    exact getD_set_f (ready_pred hr ho e he hb)
  · refine getD_set_f (h k o ho ?_ e he hb)
    simp only [Array.getD_eq_getD_getElem?, Array.getElem?_setIfInBounds, if_neg hik] at hk ⊢
    exact hk
theorem waits_listed {listed : Array Bool} (h : Shut md ops listed) {i : Nat} : ∀ (f j : Nat), (∀ o, ops[j]? = some o → ∀ e ∈ o.after, Region.binds md e = true → listed.getD e.on false = true) → waitsB md ops i f j = true → listed.getD i false = true
  | 0, _, _, hw => by cases hw
  | f + 1, j, hp, hw => by
    rw [waitsB] at hw
    cases ho : ops[j]? with
    | none => rw [ho] at hw; cases hw
    | some o =>
      rw [ho] at hw
      obtain ⟨e, he, hb⟩ := Array.any_eq_true'.1 hw
      simp only [Bool.and_eq_true, Bool.or_eq_true, beq_iff_eq] at hb
      have hl := hp o ho e he hb.1
      rcases hb.2 with h1 | h1
      · rw [← h1]; exact hl
      · exact waits_listed h f e.on (fun o' ho' e' he' hb' => h e.on o' ho' hl e' he' hb') h1
theorem wpAnyD_first2 {z i : Nat} {oi : Oper} {v : Value} (hi : ops[i]? = some oi) (hsel : ∀ (j : Nat) (o : Oper) cs b, ops[j]? = some o → o.op ≠ .select cs b)
    (hQ : ∀ c a w, Q (.panic c) (a.put oi.dst v) w → Q (.panic c) a w) (hlate : lateB2 md ops z i = true) :
    ∀ (fuel : Nat) (listed : Array Bool) (a : Act) (w : World), Shut md ops listed →
      (∀ j oj, ops[j]? = some oj → j ≠ i → listed.getD j true = false → (∀ e ∈ oj.after, Region.binds md e = true → e.on ≠ i) → oi.apart ops oj = true) →
      i ∈ Region.ready md ops listed → YieldsIf P ops S oi v a → S w →
      wpAnyD P md ops Q S z fuel (listed.setIfInBounds i true) (a.put oi.dst v) w → wpAnyD P md ops Q S z (fuel + 1) listed a w := by
  intro fuel
  induction fuel with
  | zero =>
    intro listed a w _ _ hr hy hS H
    refine ⟨fun h => (by rw [h] at hr; cases hr), fun j hj => ?_⟩
    by_cases hji : j = i
    · subst hji; exact hy.wpOp hi hS ⟨fun _ => hS, H⟩
    · have := ready_mono hj hji
      rw [H.1] at this
      cases this
  | succ fuel ih =>
    intro listed a w hsh hfree hr hy hS H
    refine ⟨fun h => (by rw [h] at hr; cases hr), fun j hj => ?_⟩
    by_cases hji : j = i
    · subst hji; exact hy.wpOp hi hS ⟨fun _ => hS, H⟩
    · have h1 := H.2 j (ready_mono hj hji)
      obtain ⟨hjun, oj, hoj, hall⟩ := mem_ready.1 hj
      have hun : ¬ listed.getD i false = true := fun h1 => by
        have h0 := (mem_ready.1 hr).1
        rcases Nat.lt_or_ge i listed.size with h' | h'
        · simp [h'] at h0 h1; rw [h0] at h1; cases h1
        · simp [Array.getElem?_eq_none h'] at h1
      have hnot : ∀ e ∈ oj.after, Region.binds md e = true → e.on ≠ i := fun e he hb heq => hun (heq ▸ ready_pred hj hoj e he hb)
      have hjz : j < z := by
        rcases Nat.lt_or_ge j z with h' | h'
        · exact h'
        · have h1 := List.all_eq_true.1 hlate j (List.mem_range.2 (Array.getElem?_eq_some_iff.1 hoj).1)
          simp only [Bool.or_eq_true, decide_eq_true_eq] at h1
          rcases h1 with h1 | h1
          · omega
          · exact absurd (waits_listed hsh 9 j (fun o ho => ready_pred hj ho) h1) hun
      have h2 := wpOp_putIf hoj (hfree j oj hoj hji hjun hnot) (fun cs b => hsel i oi cs b hi) (fun cs b => hsel j oj cs b hoj) hQ hy h1
      have hfree' : ∀ k ok, ops[k]? = some ok → k ≠ i → (listed.setIfInBounds j true).getD k true = false →
          (∀ e ∈ ok.after, Region.binds md e = true → e.on ≠ i) → oi.apart ops ok = true := fun k ok hk hki hun hno => by
        refine hfree k ok hk hki ?_ hno
        by_cases hjk : j = k
        · subst hjk; exact hjun
        · rw [Go.getD_set_ne true hjk] at hun; exact hun
      refine wpOp_mono (fun a' w' h3 => ⟨h3.2.1, ih (listed.setIfInBounds j true) a' w' (hsh.put hj) hfree' (ready_mono hr (Ne.symm hji)) h3.1 (h3.2.1 hjz) ?_⟩) h2
      rw [Array.setIfInBounds_comm _ _ hji]
      exact h3.2.2
def readB2 (md : Region.Mode) (ops : Array Oper) (z : Nat) : List Nat → Array Bool → Bool
  | [], _ => true
  | i :: r, listed => (Region.free md ops listed i && ((Region.ready md ops listed).contains i && lateB2 md ops z i)) && readB2 md ops z r (listed.setIfInBounds i true)
theorem reads_any2 {z : Nat} (hsel : Region.noSelect ops = true) (hg : ∀ (i : Nat) o, ops[i]? = some o → o.guard = none) (hQ : ∀ c (a : Act) d v w, Q (.panic c) (a.put d v) w → Q (.panic c) a w) {n : Nat} {w : World} (hS : S w) (fin : Array Bool) : ∀ (c : List Nat) (l : List Oper) (vs : List Value) (listed : Array Bool) (a : Act), Shut md ops listed → All2 ops c l → readB2 md ops z c listed = true → setAll listed c = fin →
    (∀ W, S W → RdL P l vs a W) → wpAnyD P md ops Q S z n fin (putL l vs a) w → wpAnyD P md ops Q S z (c.length + n) listed a w
  | _, _, [], listed, a, _, .nil, _, hf, _, h => by subst hf; rw [List.length_nil, Nat.zero_add]; exact h
  | _, _, _ :: _, listed, a, _, .nil, _, _, hr, _ => (hr w hS).elim
  | _, _, [], listed, a, _, .cons _ _, _, _, hr, _ => (hr w hS).elim
  | _, _, v :: vs, listed, a, hsh, .cons (i := i) (o := o) (r := r) (l := l) hi t, hB, hf, hr, h => by
    rw [readB2, Bool.and_eq_true, Bool.and_eq_true, Bool.and_eq_true] at hB
    obtain ⟨⟨b1, b2, b3⟩, b4⟩ := hB
    have hl : (i :: r).length + n = (r.length + n) + 1 := by rw [List.length_cons]; omega
    rw [hl]
    have hrd : i ∈ Region.ready md ops listed := by simpa using b2
    refine wpAnyD_first2 hi (Region.noSelect_spec hsel) (fun c a w => hQ c a _ _ w) b3 (r.length + n) listed a w hsh (Region.free_spec hi b1) hrd (.inl ⟨by simp [Region.wanted, hg i o hi], fun W hW => (hr W hW).1⟩) hS ?_
    exact reads_any2 hsel hg hQ hS fin r l vs _ _ (hsh.put hrd) t b4 hf (fun W hW => (hr W hW).2) h
theorem shut_none (n : Nat) : Shut md ops (Array.replicate n false) := fun k o _ hk => by
  exfalso
  simp only [Array.getD_eq_getD_getElem?, Array.getElem?_replicate] at hk
  split at hk <;> simp at hk
/-- **.. behind whose first operations S holds still; one may wait through another.** -/
theorem wp_region_r2 {id : Nat} {a : Act} {w : World} {l : List Oper} (hm : P.follows .mixedOrders = true) (r z : Nat) (S : World → Prop)
    (hB : (Region.noSelect l.toArray && ((l.all fun o => o.guard.isNone) && (readB2 .any l.toArray z (List.range' 0 r) (Array.replicate l.length false) && (endB .any l.toArray (List.range' r (l.length - r)) (setAll (Array.replicate l.length false) (List.range' 0 r)) && decide (r ≤ l.length))))) = true)
    (hQ : ∀ c (a : Act) d v w, Q (.panic c) (a.put d v) w → Q (.panic c) a w)
    (hS : S w.drew) (h : RdC P S (l.take r) a fun a' => wpListS P l.toArray Q S (z - r) (l.drop r) a' w.drew) : (Code.region id l.toArray true).wp P Q a w := by
  obtain ⟨vs, hR, h⟩ := h.ex
  simp only [Bool.and_eq_true, decide_eq_true_eq] at hB
  obtain ⟨h1, h2, h3, h4, h5⟩ := hB
  have hg : ∀ (i : Nat) o, l.toArray[i]? = some o → o.guard = none := fun i o ho => by
    have := List.all_eq_true.1 h2 o (List.mem_of_getElem? (by simpa using ho))
    simpa using this
  have l1 : (l.take r).length = r := by simp; omega
  have l2 : (l.drop r).length = l.length - r := by simp
  have a1 : All2 l.toArray (List.range' 0 r) (l.take r) := by
    have := all2_part (ops := l.toArray) (l.take r) 0 fun j hj => by
      rw [List.getElem?_take, if_pos (by omega)]; simp
    rwa [l1] at this
  have a2 : All2 l.toArray (List.range' r (l.length - r)) (l.drop r) := by
    have := all2_part (ops := l.toArray) (l.drop r) r fun j hj => by
      rw [List.getElem?_drop]; simp
    rwa [l2] at this
  have c1 := listS_anyD (md := .any) (S := S) _ _ (z - r) r _ _ _ a2 (by rw [List.length_range']) rfl h4 h
  rw [List.length_range'] at c1
  have c2 := reads_any2 (md := .any) h1 hg hQ hS _ _ _ vs _ a (shut_none _) a1 h3 rfl hR c1
  rw [List.length_range', show r + (l.length - r) = l.length by omega] at c2
  exact wp_region_any hm (by simpa using wpAny_of_D _ _ _ _ c2)
end

theorem size3 : (Tryz.prog.info? 3).map (·.size) = some 1 := by kernel_rfl
/-- lists of bytes as keys -/
def keysOf (ks : List BL) : List (List Nat) := ks.map (·.1)
theorem idxK_sub (k : List Nat) (hk : ∀ x ∈ k, x < 256) : ∀ (ks : List BL) (i : Nat), idxK (⟨k, hk⟩ : BL) ks i = idxK k (keysOf ks) i
  | [], i => rfl
  | x :: r, i => by
    rw [keysOf, List.map_cons, idxK, idxK, ← keysOf, idxK_sub k hk r (i + 1)]
    by_cases h : x.1 = k
    · rw [if_pos h, if_pos (Subtype.ext h)]
    · rw [if_neg h, if_neg fun e => h (by rw [e])]
theorem keysOf_snoc (ks : List BL) (k : BL) : keysOf (ks ++ [k]) = keysOf ks ++ [k.1] := by simp [keysOf]
theorem two_lt (x : Nat) : ∀ y ∈ two x, y < 256 := fun y hy => by
  simp only [two, List.mem_cons, List.not_mem_nil, or_false] at hy
  omega
theorem keyR_lt (block row : List Nat) : ∀ y ∈ keyR block row, y < 256 := fun y hy => by
  obtain ⟨_, _, h⟩ := List.mem_flatMap.1 hy
  exact two_lt _ y h
theorem keyS_lt (block : List Nat) (nxt : List (List Nat)) (s : Nat) : ∀ y ∈ keyS block nxt s, y < 256 := fun y hy => by
  rcases List.mem_append.1 hy with h | h
  · exact two_lt _ y h
  · exact keyR_lt _ _ y h
theorem u8s_len (l : List Nat) : (u8s l).length = l.length := by simp [u8s]
theorem u8s_append (a b : List Nat) : u8s (a ++ b) = u8s a ++ u8s b := by simp [u8s]
theorem u8s_one (l : List Nat) : ∀ u ∈ u8s l, u.oneCell' = true := fun u hu => by obtain ⟨x, _, rfl⟩ := List.mem_map.1 hu; rfl
/-- make(map..) -/
theorem wpList_makeMapG {κ : Type} (kt : TypeId) (kv : κ → Value) {w : World} {ops : Array Oper} {rest : List Oper} {o : Oper} {a : Act} {Q : Exit → Act → World → Prop} (g : Nat) (hg : w.heap.size = g) (hgd : o.guard = none) (t : TypeId) (ho : o.op = .makeMap t none)
    (h : ∀ w', IdMap kt kv w' g [] → Below w.heap.size w w' → w'.heap.size = g + 1 → wpList Tryz.prog ops Q rest (a.put o.dst (.map (some g))) w') : wpList Tryz.prog ops Q (o :: rest) a w := by
  subst hg
  refine wpList_plain hgd fun _ hK => ?_
  unfold Oper.wp execOp
  simp only [ho, Option.map_none, Sem.run_bind, Sem.run_pure, Result.andThen_ok, run_makeMap]
  exact hK _ _ (h _ (IdMap.made kt kv w) ((Below.refl _ _).alloc (Nat.le_refl _) _) (by simp))
theorem Own.drew {w : World} {base : Nat} {e : TypeId} {A : Option Addr} {n c : Nat} {xs : List Value} (h : Own w base e A n c xs) : Own w.drew base e A n c xs := h.keep fun _ _ => rfl
/-- two bytes are appended -/
theorem wpList_append2 {w : World} {ops : Array Oper} {rest : List Oper} {o : Oper} {a : Act} {Q : Exit → Act → World → Prop} (hgd : o.guard = none) (s x : Operand)
    (ho : o.op = .call { callee := .builtin .append, args := #[s, x], argTypes := #[22, 22] }) (base : Nat)
    (A : Option Addr) (n c : Nat) (key : List Nat) (hs : a.eval s = .slice A n c) (hown : Own w base 5 A n c (u8s key))
    (g : Nat) (y : Nat) (t : TypeId) (hx : a.eval x = .slice (some ⟨g, 0, none⟩) 2 2) (hc : Blk w g t #[.int .u8 ((y : Int) % 256), .int .u8 ((y : Int) / 256 % 256)])
    (hn : n + 2 ≤ 140737488355328) (hbase : base ≤ w.heap.size)
    (h : ∀ A' c' w', Own w' base 5 A' (n + 2) c' (u8s (key ++ two y)) → w.grownBy w' (obl A) → wpList Tryz.prog ops Q rest (a.put o.dst (.slice A' (n + 2) c')) w') :
    wpList Tryz.prog ops Q (o :: rest) a w := by
  refine wpList_appendAll hgd s x 22 ho app22 base A n c (u8s key) hs hown ⟨g, 0, none⟩ 2 2 (u8s (two y)) hx rfl (fun j u hj => ?_) (u8s_one _) (by omega) (by omega) hbase fun A' c' w' h1 h2 _ => h A' c' w' (by rw [u8s_append]; exact h1) h2
  have e : (⟨g, 0, none⟩ : Addr).add j = ⟨g, j, none⟩ := by unfold Addr.add; split <;> simp_all
  rw [e, hc.cell]
  match j, hj with
  | 0, hj => exact hj
  | 1, hj => exact hj
  | j + 2, hj => simp [u8s, two] at hj
end Go.Proofs.YtjgkdfghjeodeaaGreatDoor
