/- Drawn regions by a script: reads, operations that read nothing and may come late, and a chain. -/
import Derived.Test.YtjgkdfghjeodeaaGreatDoorT24
import Derived.Test.YtjgkdfghjeodeaaGreatDoorT25
namespace Go.Proofs.YtjgkdfghjeodeaaGreatDoor
open Go.RowKit

section
variable {P : Program} {ops : Array Oper} {Q : Exit → Act → World → Prop} {md : Region.Mode} {S : World → Prop}
/-- the operations below z keep S -/
def wpAnyZ (P : Program) (md : Region.Mode) (ops : Array Oper) (Q : Exit → Act → World → Prop) (S : World → Prop) (z : Nat) : Nat → Array Bool → Act → World → Prop
  | 0, listed, a, w => Region.ready md ops listed = [] ∧ Q .normal a w
  | fuel + 1, listed, a, w =>
    (Region.ready md ops listed = [] → Q .normal a w) ∧
    ∀ i ∈ Region.ready md ops listed, wpOp P ops Q i (fun a' w' => (i < z → S w → S w') ∧ wpAnyZ P md ops Q S z fuel (listed.setIfInBounds i true) a' w') a w
theorem wpAny_of_Z {z : Nat} : ∀ (fuel : Nat) (listed : Array Bool) (a : Act) (w : World), wpAnyZ P md ops Q S z fuel listed a w → wpAny P md ops Q fuel listed a w
  | 0, _, _, _, h => h
  | fuel + 1, _, _, _, h => ⟨h.1, fun i hi => wpOp_mono (fun a' w' h' => wpAny_of_Z fuel _ a' w' h'.2) (h.2 i hi)⟩
theorem wpAnyZ_first {z i : Nat} {oi : Oper} {v : Value} (hi : ops[i]? = some oi) (hsel : ∀ (j : Nat) (o : Oper) cs b, ops[j]? = some o → o.op ≠ .select cs b)
    (hQ : ∀ c a w, Q (.panic c) (a.put oi.dst v) w → Q (.panic c) a w) (hlate : lateB2 md ops z i = true) :
    ∀ (fuel : Nat) (listed : Array Bool) (a : Act) (w : World), Shut md ops listed →
      (∀ j oj, ops[j]? = some oj → j ≠ i → listed.getD j true = false → (∀ e ∈ oj.after, Region.binds md e = true → e.on ≠ i) → oi.apart ops oj = true) →
      i ∈ Region.ready md ops listed → YieldsIf P ops S oi v a → S w →
      wpAnyZ P md ops Q S z fuel (listed.setIfInBounds i true) (a.put oi.dst v) w → wpAnyZ P md ops Q S z (fuel + 1) listed a w := by
  intro fuel
  induction fuel with
  | zero =>
    intro listed a w _ _ hr hy hS H
    refine ⟨fun h => (by rw [h] at hr; cases hr), fun j hj => ?_⟩
    by_cases hji : j = i
    · subst hji; exact hy.wpOp hi hS ⟨fun _ _ => hS, H⟩
    · have := ready_mono hj hji
      rw [H.1] at this
      cases this
  | succ fuel ih =>
    intro listed a w hsh hfree hr hy hS H
    refine ⟨fun h => (by rw [h] at hr; cases hr), fun j hj => ?_⟩
    by_cases hji : j = i
    · subst hji; exact hy.wpOp hi hS ⟨fun _ _ => hS, H⟩
    · have h1 := H.2 j (ready_mono hj hji)
      obtain ⟨hjun, oj, hoj, hall⟩ := mem_ready.1 hj
      have hun : ¬ listed.getD i false = true := fun h1 => by
        have h0 := (mem_ready.1 hr).1
        rcases Nat.lt_or_ge i listed.size with h' | h'
        · simp [h'] at h0 h1; rw [h0] at h1; cases h1
        · simp [Array.getElem?_eq_none h'] at h1
      have hnot : ∀ e ∈ oj.after, Region.binds md e = true → e.on ≠ i := fun e he hb heq => hun (heq ▸ ready_pred hj hoj e he hb)
      have hjz : j < z := by
        rcases Nat.lt_or_ge j z with h' | h'
        · exact h'
        · have h1 := List.all_eq_true.1 hlate j (List.mem_range.2 (Array.getElem?_eq_some_iff.1 hoj).1)
          simp only [Bool.or_eq_true, decide_eq_true_eq] at h1
          rcases h1 with h1 | h1
          · omega
          · exact absurd (waits_listed hsh 9 j (fun o ho => ready_pred hj ho) h1) hun
      have h2 := wpOp_putIf hoj (hfree j oj hoj hji hjun hnot) (fun cs b => hsel i oi cs b hi) (fun cs b => hsel j oj cs b hoj) hQ hy h1
      have hfree' : ∀ k ok, ops[k]? = some ok → k ≠ i → (listed.setIfInBounds j true).getD k true = false →
          (∀ e ∈ ok.after, Region.binds md e = true → e.on ≠ i) → oi.apart ops ok = true := fun k ok hk hki hun hno => by
        refine hfree k ok hk hki ?_ hno
        by_cases hjk : j = k
        · subst hjk; exact hjun
        · rw [Go.getD_set_ne true hjk] at hun; exact hun
      refine wpOp_mono (fun a' w' h3 => ⟨h3.2.1, ih (listed.setIfInBounds j true) a' w' (hsh.put hj) hfree' (ready_mono hr (Ne.symm hji)) h3.1 (h3.2.1 hjz hS) ?_⟩) h2
      rw [Array.setIfInBounds_comm _ _ hji]
      exact h3.2.2
theorem wpAnyZ_pure {z i : Nat} {oi : Oper} {v : Value} (hi : ops[i]? = some oi) (hsel : ∀ (j : Nat) (o : Oper) cs b, ops[j]? = some o → o.op ≠ .select cs b)
    (hQ : ∀ c a w, Q (.panic c) (a.put oi.dst v) w → Q (.panic c) a w) :
    ∀ (fuel : Nat) (listed : Array Bool) (a : Act) (w : World), Shut md ops listed →
      (∀ j oj, ops[j]? = some oj → j ≠ i → listed.getD j true = false → (∀ e ∈ oj.after, Region.binds md e = true → e.on ≠ i) → oi.apart ops oj = true) →
      i ∈ Region.ready md ops listed → YieldsIf P ops (fun _ => True) oi v a →
      wpAnyZ P md ops Q S z fuel (listed.setIfInBounds i true) (a.put oi.dst v) w → wpAnyZ P md ops Q S z (fuel + 1) listed a w := by
  intro fuel
  induction fuel with
  | zero =>
    intro listed a w _ _ hr hy H
    refine ⟨fun h => (by rw [h] at hr; cases hr), fun j hj => ?_⟩
    by_cases hji : j = i
    · subst hji; exact hy.wpOp hi trivial ⟨fun _ hS => hS, H⟩
    · have := ready_mono hj hji
      rw [H.1] at this
      cases this
  | succ fuel ih =>
    intro listed a w hsh hfree hr hy H
    refine ⟨fun h => (by rw [h] at hr; cases hr), fun j hj => ?_⟩
    by_cases hji : j = i
    · subst hji; exact hy.wpOp hi trivial ⟨fun _ hS => hS, H⟩
    · have h1 := H.2 j (ready_mono hj hji)
      obtain ⟨hjun, oj, hoj, hall⟩ := mem_ready.1 hj
      have hun : ¬ listed.getD i false = true := fun h1 => by
        have h0 := (mem_ready.1 hr).1
        rcases Nat.lt_or_ge i listed.size with h' | h'
        · simp [h'] at h0 h1; rw [h0] at h1; cases h1
        · simp [Array.getElem?_eq_none h'] at h1
      have hnot : ∀ e ∈ oj.after, Region.binds md e = true → e.on ≠ i := fun e he hb heq => hun (heq ▸ ready_pred hj hoj e he hb)
      have h2 := wpOp_putIf hoj (hfree j oj hoj hji hjun hnot) (fun cs b => hsel i oi cs b hi) (fun cs b => hsel j oj cs b hoj) hQ hy h1
      have hfree' : ∀ k ok, ops[k]? = some ok → k ≠ i → (listed.setIfInBounds j true).getD k true = false →
          (∀ e ∈ ok.after, Region.binds md e = true → e.on ≠ i) → oi.apart ops ok = true := fun k ok hk hki hun hno => by
        refine hfree k ok hk hki ?_ hno
        by_cases hjk : j = k
        · subst hjk; exact hjun
        · rw [Go.getD_set_ne true hjk] at hun; exact hun
      refine wpOp_mono (fun a' w' h3 => ⟨h3.2.1, ih (listed.setIfInBounds j true) a' w' (hsh.put hj) hfree' (ready_mono hr (Ne.symm hji)) h3.1 ?_⟩) h2
      rw [Array.setIfInBounds_comm _ _ hji]
      exact h3.2.2
/-- in a script: p reads nothing, r reads what S says, c is alone ready -/
inductive Kd where
  | p
  | r
  | c
def WZ (P : Program) (ops : Array Oper) (Q : Exit → Act → World → Prop) (S : World → Prop) (z : Nat) : List (Nat × Kd) → Act → World → Prop
  | (i, .p) :: f, a, w => ∃ o v, ops[i]? = some o ∧ YieldsIf P ops (fun _ => True) o v a ∧ WZ P ops Q S z f (a.put o.dst v) w
  | (i, .r) :: f, a, w => ∃ o v, ops[i]? = some o ∧ YieldsIf P ops S o v a ∧ WZ P ops Q S z f (a.put o.dst v) w
  | (i, .c) :: f, a, w => ∃ o, ops[i]? = some o ∧ wpList P ops (segQ Q fun a' w' => (i < z → S w → S w') ∧ WZ P ops Q S z f a' w') [o] a w
  | [], a, w => Q .normal a w
theorem wz_c {z i : Nat} {f : List (Nat × Kd)} {o : Oper} {a : Act} {w : World} (ho : ops[i]? = some o) (h : wpList P ops (segQ Q fun a' w' => (i < z → S w → S w') ∧ WZ P ops Q S z f a' w') [o] a w) : WZ P ops Q S z ((i, .c) :: f) a w := ⟨o, ho, h⟩
theorem wz_r {z i : Nat} {f : List (Nat × Kd)} {o : Oper} {a : Act} {w : World} (ho : ops[i]? = some o) (v : Value) (h1 : ∀ W, S W → (execOp a.eval o).run P W = .ok (.value v) W) (h2 : WZ P ops Q S z f (a.put o.dst v) w) (hg : o.guard = none := by rfl) : WZ P ops Q S z ((i, .r) :: f) a w := ⟨o, v, ho, .inl ⟨by simp [Region.wanted, hg], h1⟩, h2⟩
theorem wz_p {z i : Nat} {f : List (Nat × Kd)} {o : Oper} {a : Act} {w : World} (ho : ops[i]? = some o) (v : Value) (h1 : ∀ W, (execOp a.eval o).run P W = .ok (.value v) W) (h2 : WZ P ops Q S z f (a.put o.dst v) w) (hg : o.guard = none := by rfl) : WZ P ops Q S z ((i, .p) :: f) a w := ⟨o, v, ho, .inl ⟨by simp [Region.wanted, hg], fun W _ => h1 W⟩, h2⟩
theorem wz_e {z : Nat} {a : Act} {w : World} (h : Q .normal a w) : WZ P ops Q S z [] a w := h
def wzB (md : Region.Mode) (ops : Array Oper) (z : Nat) : List (Nat × Kd) → Bool → Array Bool → Bool
  | (i, .p) :: f, lv, listed => (ops[i]?.isSome && (Region.free md ops listed i && (Region.ready md ops listed).contains i)) && wzB md ops z f lv (listed.setIfInBounds i true)
  | (i, .r) :: f, lv, listed => (lv && (ops[i]?.isSome && (Region.free md ops listed i && ((Region.ready md ops listed).contains i && lateB2 md ops z i)))) && wzB md ops z f lv (listed.setIfInBounds i true)
  | (i, .c) :: f, lv, listed => decide (Region.ready md ops listed = [i]) && wzB md ops z f (lv && decide (i < z)) (listed.setIfInBounds i true)
  | [], _, listed => (Region.ready md ops listed).isEmpty
theorem wz_any {z : Nat} (hsel : Region.noSelect ops = true) (hQ : ∀ c (a : Act) d v w, Q (.panic c) (a.put d v) w → Q (.panic c) a w) :
    ∀ (f : List (Nat × Kd)) (lv : Bool) (listed : Array Bool) (a : Act) (w : World), Shut md ops listed → wzB md ops z f lv listed = true → (lv = true → S w) → WZ P ops Q S z f a w → wpAnyZ P md ops Q S z f.length listed a w
  | [], lv, listed, a, w, _, hB, _, h => ⟨by simpa [wzB] using hB, by simpa [WZ] using h⟩
  | (i, .p) :: f, lv, listed, a, w, hsh, hB, hS, h => by
    obtain ⟨o, v, ho, hv, h⟩ := h
    rw [wzB, ho] at hB
    simp only [Bool.and_eq_true] at hB
    obtain ⟨⟨_, b1, b2⟩, b4⟩ := hB
    have hrd : i ∈ Region.ready md ops listed := by simpa using b2
    refine wpAnyZ_pure ho (Region.noSelect_spec hsel) (fun c a w => hQ c a _ _ w) f.length listed a w hsh (Region.free_spec ho b1) hrd hv ?_
    exact wz_any hsel hQ f lv _ _ w (hsh.put hrd) b4 hS h
  | (i, .r) :: f, lv, listed, a, w, hsh, hB, hS, h => by
    obtain ⟨o, v, ho, hv, h⟩ := h
    rw [wzB, ho] at hB
    simp only [Bool.and_eq_true] at hB
    obtain ⟨⟨hlv, _, b1, b2, b3⟩, b4⟩ := hB
    have hrd : i ∈ Region.ready md ops listed := by simpa using b2
    refine wpAnyZ_first ho (Region.noSelect_spec hsel) (fun c a w => hQ c a _ _ w) b3 f.length listed a w hsh (Region.free_spec ho b1) hrd hv (hS hlv) ?_
    exact wz_any hsel hQ f lv _ _ w (hsh.put hrd) b4 hS h
  | (i, .c) :: f, lv, listed, a, w, hsh, hB, hS, h => by
    obtain ⟨o, ho, h⟩ := h
    rw [wzB, Bool.and_eq_true, decide_eq_true_eq] at hB
    refine ⟨fun h0 => (by rw [hB.1] at h0; cases h0), fun j hj => ?_⟩
    have hrd : i ∈ Region.ready md ops listed := by rw [hB.1]; simp
    rw [hB.1] at hj
    obtain rfl : j = i := by simpa using hj
    have h2 : wpOp P ops (segQ Q fun a' w' => (j < z → S w → S w') ∧ WZ P ops Q S z f a' w') j (fun a' w' => (j < z → S w → S w') ∧ WZ P ops Q S z f a' w') a w := by
      unfold wpOp
      simp only [ho]
      exact h
    refine wpOp_mono (fun a' w' h' => ⟨fun hz => h'.1 hz, ?_⟩) (wpOp_seg h2)
    exact wz_any hsel hQ f _ _ a' w' (hsh.put hrd) hB.2 (fun hl => by
      simp only [Bool.and_eq_true, decide_eq_true_eq] at hl
      exact h'.1 hl.2 (hS hl.1)) h'.2
/-- **A drawn region by a script, with operations that may come late.** -/
theorem wp_region_wz {id : Nat} {a : Act} {w : World} {l : List Oper} (hm : P.follows .mixedOrders = true) (f : List (Nat × Kd)) (z : Nat) (S : World → Prop)
    (hB : (Region.noSelect l.toArray && (decide (l.length = f.length) && wzB .any l.toArray z f true (Array.replicate l.length false))) = true)
    (hQ : ∀ c (a : Act) d v w, Q (.panic c) (a.put d v) w → Q (.panic c) a w)
    (hS : S w.drew) (h : WZ P l.toArray Q S z f a w.drew) : (Code.region id l.toArray true).wp P Q a w := by
  simp only [Bool.and_eq_true, decide_eq_true_eq] at hB
  obtain ⟨h1, h2, h3⟩ := hB
  have c1 := wz_any (md := .any) h1 hQ f true _ a _ (shut_none _) h3 (fun _ => hS) h
  rw [← h2] at c1
  exact wp_region_any hm (by simpa using wpAny_of_Z _ _ _ _ c1)
end

set_option maxRecDepth 100000 in
theorem ins1_c (A : Option Addr) (n c : Nat) (hn : n < 2) (g : Value) (w : World) : Calls Tryz.prog 135 #[.slice A n c, vi 0, vi n, g] w fun e w' => (∃ v, e = .returned v) ∧ w' = w := by
  have d1 : decide ((1 : Int) < (n : Int)) = false := by simp; omega
  go_enter Tryz.func135, Tryz.ntmps135
  go_wp2_with fail
  refine wp_loop_rounds 1 ?_
  rw [rounds_succ]
  go_wp2_with fail
  go_end0
  exact ⟨⟨_, rfl⟩, rfl⟩
theorem en111 : ∀ args w, (callFunc 111 args).run Tryz.prog w = .ok (.enter 111 args) w := fun args w => by kernel_rfl
/-- two classes in the order of their least bytes -/
def sort2 (a b : Nat) : List Nat := if leastI b - leastI a < 0 then [b, a] else [a, b]
set_option maxRecDepth 100000 in
set_option maxHeartbeats 4000000 in
theorem ins2_c (base : Nat) (A : Option Addr) (c a b : Nat) (w : World) (hO : OwnS w base 56 4 A 2 c (ccl [a, b])) (hT : Tab w) (hh : 0 < w.heap.size) (hb : 0 < base) : Calls Tryz.prog 135 #[.slice A 2 c, vi 0, vi 2, .func (.func 111) #[] #[]] w
    fun e w' => (∃ v, e = .returned v) ∧ OwnS w' base 56 4 A 2 c (ccl (sort2 a b)) ∧ w.grownBy w' (obl A) := by
  obtain ⟨ad, rfl, q0⟩ := own_cls_at hO (k := 0) (by simp)
  obtain ⟨ad', e', q1⟩ := own_cls_at hO (k := 1) (by simp)
  cases e'
  have HO := Lib.hid (And.intro hO (And.intro hT (And.intro hh hb)))
  have HQ := Lib.hid (And.intro q0 q1)
  clear hO hT hh hb q0 q1
  go_enter Tryz.func135, Tryz.ntmps135
  go_wp2_with fail
  refine wp_loop_rounds 2 ?_
  rw [rounds_succ]
  go_wp2_with fail
  refine wp_loop_rounds 2 ?_
  rw [rounds_succ]
  go_wp2_with fail
  have qa : ∀ j v, (ccells a).toList[j]? = some v → w.drew.cell? ((ad.add (0 * 4)).add j) = some v := HQ.out.1
  have qb : ∀ j v, (ccells b).toList[j]? = some v → w.drew.cell? ((ad.add (1 * 4)).add j) = some v := HQ.out.2
  refine wp_region_wq (by kernel_rfl) [(0, true), (1, true), (2, true), (3, true), (4, true), (5, true), (6, true), (7, true), (8, true), (9, true), (10, true), (11, true), (12, true), (13, true), (14, false), (15, false), (16, false)] 14 (fun W => (∀ j v, (ccells a).toList[j]? = some v → W.cell? ((ad.add (0 * 4)).add j) = some v) ∧ (∀ j v, (ccells b).toList[j]? = some v → W.cell? ((ad.add (1 * 4)).add j) = some v)) (by decide +kernel) (fun _ _ d _ _ h => by cases d <;> exact h) ⟨qa, qb⟩ ?_
  clear qa qb
  iterate 4 (refine wq_r (by simp only [List.getElem?_toArray, List.getElem?_cons_succ, List.getElem?_cons_zero]; rfl) ?_ (fun W hS => ?_) ?_; rotate_left; (focus (clear hS; go_simp; first | done | rfl)); simp only [Act.put, List.setIfInBounds_toArray, List.set_cons_zero, List.set_cons_succ])
  iterate 4 (refine wq_g (by simp only [List.getElem?_toArray, List.getElem?_cons_succ, List.getElem?_cons_zero]; rfl) (by rfl) ?_ (fun W hS => ?_) ?_; rotate_left; (focus (clear hS; go_simp; first | done | rfl | rw [if_pos (by omega)])); simp only [Act.put, List.setIfInBounds_toArray, List.set_cons_zero, List.set_cons_succ])
  refine wq_g (by simp only [List.getElem?_toArray, List.getElem?_cons_succ, List.getElem?_cons_zero]; rfl) (by rfl) (.agg (ccells b)) (fun W hS => run_load_class (.tmp 25) rfl _ rfl b hS.2) ?_
  simp only [Act.put, List.setIfInBounds_toArray, List.set_cons_zero, List.set_cons_succ]
  iterate 4 (refine wq_g (by simp only [List.getElem?_toArray, List.getElem?_cons_succ, List.getElem?_cons_zero]; rfl) (by rfl) ?_ (fun W hS => ?_) ?_; rotate_left; (focus (clear hS; go_simp; first | done | rfl | rw [if_pos (by omega)])); simp only [Act.put, List.setIfInBounds_toArray, List.set_cons_zero, List.set_cons_succ])
  refine wq_g (by simp only [List.getElem?_toArray, List.getElem?_cons_succ, List.getElem?_cons_zero]; rfl) (by rfl) (.agg (ccells a)) (fun W hS => run_load_class (.tmp 30) rfl _ rfl a hS.1) ?_
  simp only [Act.put, List.setIfInBounds_toArray, List.set_cons_zero, List.set_cons_succ]
  refine wq_c (by simp only [List.getElem?_toArray, List.getElem?_cons_succ, List.getElem?_cons_zero]; rfl) ?_
  have en := en111
  obtain ⟨x, hx⟩ : ∃ x, leastI b - leastI a = x := ⟨_, rfl⟩
  have HX := Lib.hid hx
  clear hx
  go_wp2_with (first
    | (with_reducible refine wpList_unguard ?_ ?_ ?_; rfl; rfl)
    | (with_reducible refine at_calls ?_
       refine (cmp_c b a w.drew HO.out.2.1 HO.out.2.2.1).mono ?_
       rintro e w3 ⟨rfl, hb3⟩
       rw [HX.out]
       have H3 := Lib.hid (show Below w.heap.size w w3 from (Below.refl _ _).drew.trans hb3)
       clear hb3))
  clear en
  dsimp only [segQ]
  refine ⟨fun h => absurd h (by decide), ?_⟩
  refine wq_c (by simp only [List.getElem?_toArray, List.getElem?_cons_succ, List.getElem?_cons_zero]; rfl) ?_
  by_cases hneg : x < 0
  · have d3 : decide (x < 0) = true := by simpa using hneg
    go_wp2_with (first
      | (with_reducible refine wpList_unguard ?_ ?_ ?_; rfl; rfl))
    dsimp only [segQ]
    refine ⟨fun h => absurd h (by decide), ?_⟩
    refine wq_c (by simp only [List.getElem?_toArray, List.getElem?_cons_succ, List.getElem?_cons_zero]; rfl) ?_
    go_wp2_with fail
    dsimp only [segQ]
    refine ⟨fun h => absurd h (by decide), ?_⟩
    refine wq_e ?_
    have HS := Lib.hid (show sort2 a b = [b, a] by unfold sort2; rw [HX.out, if_pos hneg])
    clear hneg d3
    go_wp2_with fail
    have hbw : Below w.heap.size w w3.drew := H3.out.drew
    have H4 := Lib.hid (HO.out.1.below hbw)
    have qa : ∀ j v, (ccells a).toList[j]? = some v → w3.drew.cell? ((ad.add (0 * 4)).add j) = some v := fun j v hv => cell_below hbw (HQ.out.1 j v hv)
    have qb : ∀ j v, (ccells b).toList[j]? = some v → w3.drew.cell? ((ad.add (1 * 4)).add j) = some v := fun j v hv => cell_below hbw (HQ.out.2 j v hv)
    have HB := Lib.hid hbw
    clear hbw
    refine wp_region_wz (by kernel_rfl) [(0, .p), (1, .p), (2, .p), (3, .p), (4, .p), (5, .p), (6, .p), (7, .p), (8, .p), (9, .r), (10, .p), (11, .p), (12, .p), (13, .r), (14, .c), (15, .c), (16, .c), (17, .c)] 15 (fun W => (∀ j v, (ccells a).toList[j]? = some v → W.cell? ((ad.add (0 * 4)).add j) = some v) ∧ (∀ j v, (ccells b).toList[j]? = some v → W.cell? ((ad.add (1 * 4)).add j) = some v)) (by decide +kernel) (fun _ _ d _ _ h => by cases d <;> exact h) ⟨qa, qb⟩ ?_
    clear qa qb
    iterate 9 (refine wz_p (by simp only [List.getElem?_toArray, List.getElem?_cons_succ, List.getElem?_cons_zero]; rfl) ?_ (fun W => ?_) ?_; rotate_left; (focus (go_simp; first | done | rfl | rw [if_pos (by omega)])); simp only [Act.put, List.setIfInBounds_toArray, List.set_cons_zero, List.set_cons_succ])
    refine wz_r (by simp only [List.getElem?_toArray, List.getElem?_cons_succ, List.getElem?_cons_zero]; rfl) (.agg (ccells a)) (fun W hS => run_load_class (.tmp 45) rfl _ rfl a hS.1) ?_
    simp only [Act.put, List.setIfInBounds_toArray, List.set_cons_zero, List.set_cons_succ]
    iterate 3 (refine wz_p (by simp only [List.getElem?_toArray, List.getElem?_cons_succ, List.getElem?_cons_zero]; rfl) ?_ (fun W => ?_) ?_; rotate_left; (focus (go_simp; first | done | rfl | rw [if_pos (by omega)])); simp only [Act.put, List.setIfInBounds_toArray, List.set_cons_zero, List.set_cons_succ])
    refine wz_r (by simp only [List.getElem?_toArray, List.getElem?_cons_succ, List.getElem?_cons_zero]; rfl) (.agg (ccells b)) (fun W hS => run_load_class (.tmp 49) rfl _ rfl b hS.2) ?_
    simp only [Act.put, List.setIfInBounds_toArray, List.set_cons_zero, List.set_cons_succ]
    refine wz_c (by simp only [List.getElem?_toArray, List.getElem?_cons_succ, List.getElem?_cons_zero]; rfl) ?_
    go_wp2_with fail
    first
      | refine wz_c (by simp only [List.getElem?_toArray, List.getElem?_cons_succ, List.getElem?_cons_zero]; rfl) ?_
      | (dsimp only [segQ]
         refine ⟨fun _ hS => hS, ?_⟩
         refine wz_c (by simp only [List.getElem?_toArray, List.getElem?_cons_succ, List.getElem?_cons_zero]; rfl) ?_)
    go_wp2_with (first
      | (with_reducible refine at_oper (.store 56 (.tmp 51) (.tmp 46)) rfl ?_
         refine wpList_store_own rfl 56 (.tmp 51) (.tmp 46) rfl rfl H4.out 1 (by decide) (ccells a).toList rfl (fun v hv => ccl_one [a] v (by simpa [ccl] using hv)) size56 ad rfl rfl rfl ?_
         intro w5 k5 o5
         have H5 := Lib.hid (show OwnS w5 base 56 4 (some ad) 2 c (ccl [a, a]) ∧ Only ad.block w3.drew w5 from ⟨by rw [ccl_set [a, b] 1 a (by simp)] at k5; exact k5, o5⟩)
         clear k5 o5))
    first
      | refine wz_c (by simp only [List.getElem?_toArray, List.getElem?_cons_succ, List.getElem?_cons_zero]; rfl) ?_
      | (dsimp only [segQ]
         refine ⟨fun h => absurd h (by decide), ?_⟩
         refine wz_c (by simp only [List.getElem?_toArray, List.getElem?_cons_succ, List.getElem?_cons_zero]; rfl) ?_)
    go_wp2_with fail
    first
      | refine wz_c (by simp only [List.getElem?_toArray, List.getElem?_cons_succ, List.getElem?_cons_zero]; rfl) ?_
      | (dsimp only [segQ]
         refine ⟨fun h => absurd h (by decide), ?_⟩
         refine wz_c (by simp only [List.getElem?_toArray, List.getElem?_cons_succ, List.getElem?_cons_zero]; rfl) ?_)
    go_wp2_with (first
      | (with_reducible refine at_oper (.store 56 (.tmp 52) (.tmp 50)) rfl ?_
         refine wpList_store_own rfl 56 (.tmp 52) (.tmp 50) rfl rfl H5.out.1 0 (by decide) (ccells b).toList rfl (fun v hv => ccl_one [b] v (by simpa [ccl] using hv)) size56 ad rfl rfl rfl ?_
         intro w6 k6 o6
         have H6 := Lib.hid (show OwnS w6 base 56 4 (some ad) 2 c (ccl [b, a]) ∧ Only ad.block w3.drew w6 from ⟨by rw [ccl_set [a, a] 0 b (by simp)] at k6; exact k6, ⟨o6.os.trans H5.out.2.os, o6.tape.trans H5.out.2.tape, o6.output.trans H5.out.2.output, o6.size.trans H5.out.2.size, fun k hk => (o6.block k hk).trans (H5.out.2.block k hk)⟩⟩)
         clear k6 o6))
    first
      | refine wz_e ?_
      | (dsimp only [segQ]
         refine ⟨fun h => absurd h (by decide), ?_⟩
         refine wz_e ?_)
    go_wp2_with fail
    rw [rounds_succ]
    go_wp2_with fail
    refine wp_region_wq (by kernel_rfl) [(0, true), (1, true), (2, true), (3, true), (4, true), (5, true), (6, true), (7, true), (8, true), (9, true), (10, true), (11, true), (12, true), (13, true), (14, true), (15, true), (16, true)] 17 (fun W => True) (by decide +kernel) (fun _ _ d _ _ h => by cases d <;> exact h) trivial ?_
    iterate 4 (refine wq_r (by simp only [List.getElem?_toArray, List.getElem?_cons_succ, List.getElem?_cons_zero]; rfl) ?_ (fun W hS => ?_) ?_; rotate_left; (focus (clear hS; go_simp; first | done | rfl)); simp only [Act.put, List.setIfInBounds_toArray, List.set_cons_zero, List.set_cons_succ])
    iterate 12 (refine wq_s (by simp only [List.getElem?_toArray, List.getElem?_cons_succ, List.getElem?_cons_zero]; rfl) (by rfl) ?_; simp only [Act.put, List.setIfInBounds_toArray, List.set_cons_zero, List.set_cons_succ])
    refine wq_r (by simp only [List.getElem?_toArray, List.getElem?_cons_succ, List.getElem?_cons_zero]; rfl) (.bool false) (fun W hS => by clear hS; go_simp) ?_
    simp only [Act.put, List.setIfInBounds_toArray, List.set_cons_zero, List.set_cons_succ]
    refine wq_e ?_
    go_wp2_with fail
    rw [rounds_succ]
    go_wp2_with fail
    go_end0
    refine ⟨⟨_, rfl⟩, by rw [HS.out]; exact H6.out.1, ?_⟩
    have ho := H6.out.2
    have hb := HB.out
    exact ⟨ho.os.trans hb.os, ho.tape.trans hb.tape, ho.output.trans hb.output, Nat.le_trans hb.size (Nat.le_of_eq ho.size.symm), fun k hk hne => (ho.block k (fun e => hne (by rw [e]; rfl))).trans (hb.block k hk)⟩
  · have d3 : decide (x < 0) = false := by simpa using hneg
    go_wp2_with (first
      | (with_reducible refine wpList_unguard ?_ ?_ ?_; rfl; rfl))
    first
      | refine wq_c (by simp only [List.getElem?_toArray, List.getElem?_cons_succ, List.getElem?_cons_zero]; rfl) ?_
      | (dsimp only [segQ]
         refine ⟨fun h => absurd h (by decide), ?_⟩
         refine wq_c (by simp only [List.getElem?_toArray, List.getElem?_cons_succ, List.getElem?_cons_zero]; rfl) ?_)
    go_wp2_with fail
    dsimp only [segQ]
    refine ⟨fun h => absurd h (by decide), ?_⟩
    refine wq_e ?_
    have HS := Lib.hid (show sort2 a b = [a, b] by unfold sort2; rw [HX.out, if_neg (by omega)])
    clear hneg d3
    go_wp2_with fail
    rw [rounds_succ]
    go_wp2_with fail
    go_end0
    have hb := H3.out
    exact ⟨⟨_, rfl⟩, by rw [HS.out]; exact HO.out.1.below hb, ⟨hb.os, hb.tape, hb.output, hb.size, fun k hk _ => hb.block k hk⟩⟩

/-- a script: p reads nothing, r reads what S says, c is alone ready, f: two are ready -/
inductive Sc where
  | e
  | p (i : Nat) (s : Sc)
  | r (i : Nat) (s : Sc)
  | c (i : Nat) (s : Sc)
  | f (i j : Nat) (s t : Sc)
/-- its length; 0: its branches differ -/
def Sc.len : Sc → Nat
  | .e => 0
  | .p _ s => s.len + 1
  | .r _ s => s.len + 1
  | .c _ s => s.len + 1
  | .f _ _ s _ => s.len + 1
section
variable {P : Program} {ops : Array Oper} {Q : Exit → Act → World → Prop} {md : Region.Mode} {S : World → Prop}
def WF (P : Program) (ops : Array Oper) (Q : Exit → Act → World → Prop) (S : World → Prop) (z : Nat) : Sc → Act → World → Prop
  | .p i s, a, w => ∃ o v, ops[i]? = some o ∧ YieldsIf P ops (fun _ => True) o v a ∧ WF P ops Q S z s (a.put o.dst v) w
  | .r i s, a, w => ∃ o v, ops[i]? = some o ∧ YieldsIf P ops S o v a ∧ WF P ops Q S z s (a.put o.dst v) w
  | .c i s, a, w => ∃ o, ops[i]? = some o ∧ wpList P ops (segQ Q fun a' w' => (i < z → S w → S w') ∧ WF P ops Q S z s a' w') [o] a w
  | .f i j s t, a, w => (∃ o, ops[i]? = some o ∧ wpList P ops (segQ Q fun a' w' => (i < z → S w → S w') ∧ WF P ops Q S z s a' w') [o] a w) ∧
    ∃ o, ops[j]? = some o ∧ wpList P ops (segQ Q fun a' w' => (j < z → S w → S w') ∧ WF P ops Q S z t a' w') [o] a w
  | .e, a, w => Q .normal a w
theorem wf_c {z i : Nat} {s : Sc} {o : Oper} {a : Act} {w : World} (ho : ops[i]? = some o) (h : wpList P ops (segQ Q fun a' w' => (i < z → S w → S w') ∧ WF P ops Q S z s a' w') [o] a w) : WF P ops Q S z (.c i s) a w := ⟨o, ho, h⟩
theorem wf_f {z i j : Nat} {s t : Sc} {oi oj : Oper} {a : Act} {w : World} (hi : ops[i]? = some oi) (hj : ops[j]? = some oj) (h1 : wpList P ops (segQ Q fun a' w' => (i < z → S w → S w') ∧ WF P ops Q S z s a' w') [oi] a w)
    (h2 : wpList P ops (segQ Q fun a' w' => (j < z → S w → S w') ∧ WF P ops Q S z t a' w') [oj] a w) : WF P ops Q S z (.f i j s t) a w := ⟨⟨oi, hi, h1⟩, oj, hj, h2⟩
theorem wf_r {z i : Nat} {s : Sc} {o : Oper} {a : Act} {w : World} (ho : ops[i]? = some o) (v : Value) (h1 : ∀ W, S W → (execOp a.eval o).run P W = .ok (.value v) W) (h2 : WF P ops Q S z s (a.put o.dst v) w) (hg : o.guard = none := by rfl) : WF P ops Q S z (.r i s) a w := ⟨o, v, ho, .inl ⟨by simp [Region.wanted, hg], h1⟩, h2⟩
theorem wf_p {z i : Nat} {s : Sc} {o : Oper} {a : Act} {w : World} (ho : ops[i]? = some o) (v : Value) (h1 : ∀ W, (execOp a.eval o).run P W = .ok (.value v) W) (h2 : WF P ops Q S z s (a.put o.dst v) w) (hg : o.guard = none := by rfl) : WF P ops Q S z (.p i s) a w := ⟨o, v, ho, .inl ⟨by simp [Region.wanted, hg], fun W _ => h1 W⟩, h2⟩
theorem wf_e {z : Nat} {a : Act} {w : World} (h : Q .normal a w) : WF P ops Q S z .e a w := h
def wfB (md : Region.Mode) (ops : Array Oper) (z : Nat) : Sc → Bool → Array Bool → Bool
  | .p i s, lv, listed => (ops[i]?.isSome && (Region.free md ops listed i && (Region.ready md ops listed).contains i)) && wfB md ops z s lv (listed.setIfInBounds i true)
  | .r i s, lv, listed => (lv && (ops[i]?.isSome && (Region.free md ops listed i && ((Region.ready md ops listed).contains i && lateB2 md ops z i)))) && wfB md ops z s lv (listed.setIfInBounds i true)
  | .c i s, lv, listed => decide (Region.ready md ops listed = [i]) && wfB md ops z s (lv && decide (i < z)) (listed.setIfInBounds i true)
  | .f i j s t, lv, listed => (decide (Region.ready md ops listed = [i, j]) && decide (s.len = t.len)) && (wfB md ops z s (lv && decide (i < z)) (listed.setIfInBounds i true) && wfB md ops z t (lv && decide (j < z)) (listed.setIfInBounds j true))
  | .e, _, listed => (Region.ready md ops listed).isEmpty
theorem wf_any {z : Nat} (hsel : Region.noSelect ops = true) (hQ : ∀ c (a : Act) d v w, Q (.panic c) (a.put d v) w → Q (.panic c) a w) :
    ∀ (f : Sc) (lv : Bool) (listed : Array Bool) (a : Act) (w : World), Shut md ops listed → wfB md ops z f lv listed = true → (lv = true → S w) → WF P ops Q S z f a w → wpAnyZ P md ops Q S z f.len listed a w := by
  intro f
  induction f with
  | e => exact fun lv listed a w _ hB _ h => ⟨by simpa [wfB] using hB, by simpa [WF] using h⟩
  | p i s ih =>
    intro lv listed a w hsh hB hS h
    obtain ⟨o, v, ho, hv, h⟩ := h
    rw [wfB, ho] at hB
    simp only [Bool.and_eq_true] at hB
    obtain ⟨⟨_, b1, b2⟩, b4⟩ := hB
    have hrd : i ∈ Region.ready md ops listed := by simpa using b2
    refine wpAnyZ_pure ho (Region.noSelect_spec hsel) (fun c a w => hQ c a _ _ w) s.len listed a w hsh (Region.free_spec ho b1) hrd hv ?_
    exact ih lv _ _ w (hsh.put hrd) b4 hS h
  | r i s ih =>
    intro lv listed a w hsh hB hS h
    obtain ⟨o, v, ho, hv, h⟩ := h
    rw [wfB, ho] at hB
    simp only [Bool.and_eq_true] at hB
    obtain ⟨⟨hlv, _, b1, b2, b3⟩, b4⟩ := hB
    have hrd : i ∈ Region.ready md ops listed := by simpa using b2
    refine wpAnyZ_first ho (Region.noSelect_spec hsel) (fun c a w => hQ c a _ _ w) b3 s.len listed a w hsh (Region.free_spec ho b1) hrd hv (hS hlv) ?_
    exact ih lv _ _ w (hsh.put hrd) b4 hS h
  | c i s ih =>
    intro lv listed a w hsh hB hS h
    obtain ⟨o, ho, h⟩ := h
    rw [wfB, Bool.and_eq_true, decide_eq_true_eq] at hB
    refine ⟨fun h0 => (by rw [hB.1] at h0; cases h0), fun j hj => ?_⟩
    have hrd : i ∈ Region.ready md ops listed := by rw [hB.1]; simp
    rw [hB.1] at hj
    obtain rfl : j = i := by simpa using hj
    have h2 : wpOp P ops (segQ Q fun a' w' => (j < z → S w → S w') ∧ WF P ops Q S z s a' w') j (fun a' w' => (j < z → S w → S w') ∧ WF P ops Q S z s a' w') a w := by
      unfold wpOp
      simp only [ho]
      exact h
    refine wpOp_mono (fun a' w' h' => ⟨fun hz => h'.1 hz, ?_⟩) (wpOp_seg h2)
    exact ih _ _ a' w' (hsh.put hrd) hB.2 (fun hl => by
      simp only [Bool.and_eq_true, decide_eq_true_eq] at hl
      exact h'.1 hl.2 (hS hl.1)) h'.2
  | f i k s t ihs iht =>
    intro lv listed a w hsh hB hS h
    obtain ⟨⟨oi, hoi, h1⟩, ok, hok, h3⟩ := h
    rw [wfB] at hB
    simp only [Bool.and_eq_true, decide_eq_true_eq] at hB
    obtain ⟨⟨hr, hlen⟩, hb1, hb2⟩ := hB
    refine ⟨fun h0 => (by rw [hr] at h0; cases h0), fun j hj => ?_⟩
    have hj2 := hj
    rw [hr] at hj2
    rcases List.mem_cons.1 hj2 with rfl | hj2
    · have h2 : wpOp P ops (segQ Q fun a' w' => (j < z → S w → S w') ∧ WF P ops Q S z s a' w') j (fun a' w' => (j < z → S w → S w') ∧ WF P ops Q S z s a' w') a w := by
        unfold wpOp
        simp only [hoi]
        exact h1
      refine wpOp_mono (fun a' w' h' => ⟨fun hz => h'.1 hz, ?_⟩) (wpOp_seg h2)
      exact ihs _ _ a' w' (hsh.put hj) hb1 (fun hl => by
        simp only [Bool.and_eq_true, decide_eq_true_eq] at hl
        exact h'.1 hl.2 (hS hl.1)) h'.2
    · obtain rfl : j = k := by simpa using hj2
      have h2 : wpOp P ops (segQ Q fun a' w' => (j < z → S w → S w') ∧ WF P ops Q S z t a' w') j (fun a' w' => (j < z → S w → S w') ∧ WF P ops Q S z t a' w') a w := by
        unfold wpOp
        simp only [hok]
        exact h3
      refine wpOp_mono (fun a' w' h' => ⟨fun hz => h'.1 hz, ?_⟩) (wpOp_seg h2)
      have := iht _ _ a' w' (hsh.put hj) hb2 (fun hl => by
        simp only [Bool.and_eq_true, decide_eq_true_eq] at hl
        exact h'.1 hl.2 (hS hl.1)) h'.2
      rw [← hlen] at this
      exact this
/-- **A drawn region by a script that forks.** -/
theorem wp_region_wf {id : Nat} {a : Act} {w : World} {l : List Oper} (hm : P.follows .mixedOrders = true) (f : Sc) (z : Nat) (S : World → Prop)
    (hB : (Region.noSelect l.toArray && (decide (l.length = f.len) && wfB .any l.toArray z f true (Array.replicate l.length false))) = true)
    (hQ : ∀ c (a : Act) d v w, Q (.panic c) (a.put d v) w → Q (.panic c) a w)
    (hS : S w.drew) (h : WF P l.toArray Q S z f a w.drew) : (Code.region id l.toArray true).wp P Q a w := by
  simp only [Bool.and_eq_true, decide_eq_true_eq] at hB
  obtain ⟨h1, h2, h3⟩ := hB
  have c1 := wf_any (md := .any) h1 hQ f true _ a _ (shut_none _) h3 (fun _ => hS) h
  rw [← h2] at c1
  exact wp_region_any hm (by simpa using wpAny_of_Z _ _ _ _ c1)
end
end Go.Proofs.YtjgkdfghjeodeaaGreatDoor
