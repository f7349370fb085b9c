/- Steps of regions that draw their order. -/
import Derived.Test.YtjgkdfghjeodeaaGreatDoorT1
import Derived.RegionTactic
import Derived.ArgAppend
import Derived.OrdersHeld
import Derived.Deep.RegionHeld3
import Derived.Deep.RegionLaw
import Derived.StillTailTactics
namespace Go.Proofs.YtjgkdfghjeodeaaGreatDoor
open Go.RowKit
abbrev TT : Nat → Prop := fun _ => True
theorem cell_below {w w' : World} (hb : Below w.heap.size w w') {p : Addr} {u : Value} (hc : w.cell? p = some u) : w'.cell? p = some u :=
  (World.cell?_of_block (w := w) (w' := w') (a := p) (hb.block _ (lt_of_cell hc))).trans hc
theorem Only.drew {g : Nat} {w w' : World} (h : Only g w w') : Only g w w'.drew := ⟨h.os, h.tape, h.output, h.size, h.block⟩

/-- a call, as a step of a region that draws -/
theorem step_call {P : Program} {ops : Array Oper} {o : Oper} {a : Act} {w : World} {K : Act → World → Prop} {Q : Exit → Act → World → Prop} {E : Prop} (hgd : o.guard = none) (f : FuncId) (args : Array Value) (e : (execOp a.eval o).run P w = .ok (.enter f args) w)
    (h : Calls P f args w fun e w' => ∃ v, e = .returned v ∧ K (a.put o.dst v) w') : if Region.wanted o (yielded ops a.tmps) = true then Oper.wp P o a w K Q else E := by
  have hw : Region.wanted o (yielded ops a.tmps) = true := by unfold Region.wanted; rw [hgd]
  rw [if_pos hw]
  unfold Oper.wp
  rw [e, Oper.upon_enter]
  refine h.mono fun e w' ⟨v, he, hk⟩ => ?_
  subst he
  exact hk
theorem blk_drew {w : World} {g : Nat} {t : TypeId} {cs : Array Value} (h : Blk w g t cs) : Blk w.drew g t cs := h
theorem i64_wrap (n : Int) (h : -9223372036854775808 ≤ n ∧ n ≤ 9223372036854775807) : IntKind.i64.wrap n = n := by rw [IntKind.wrap_i64]; omega
theorem cell_at {w w' : World} {p : Addr} {u : Value} (hb : w'.heap[p.block]? = w.heap[p.block]?) (h : w.cell? p = some u) : w'.cell? p = some u := by
  rw [← h]
  unfold World.cell?
  rw [hb]
theorem blk_at {w : World} {g : Nat} (h : w.heap.size = g) (t : TypeId) (cs : Array Value) : Blk (w.alloc (.cells cs t)) g t cs ∧ (w.alloc (.cells cs t)).heap.size = g + 1 := by
  subst h
  exact ⟨Blk.new w t cs, by simp⟩

section
variable {P : Program} {ops : Array Oper} {Q : Exit → Act → World → Prop} {md : Region.Mode}
theorem move_run {o : Oper} {x : Operand} (ho : o.op = .move x) (a : Act) (w : World) : (execOp a.eval o).run P w = .ok (.value (a.eval x)) w := by
  unfold execOp
  rw [ho]
  rfl
inductive All2 (ops : Array Oper) : List Nat → List Oper → Prop
  | nil : All2 ops [] []
  | cons {i : Nat} {o : Oper} {r : List Nat} {l : List Oper} (h : ops[i]? = some o) (t : All2 ops r l) : All2 ops (i :: r) (o :: l)
theorem All2.len : ∀ {r : List Nat} {l : List Oper}, All2 ops r l → r.length = l.length
  | _, _, .nil => rfl
  | _, _, .cons _ t => by simp [t.len]
end

/-- the first k are listed -/
def lst (n k : Nat) : Array Bool := ((List.range n).map fun i => decide (i < k)).toArray
def setAll (L : Array Bool) : List Nat → Array Bool
  | [] => L
  | i :: r => setAll (L.setIfInBounds i true) r
/-- what is asked behind a part: K at its end, else as the whole -/
def segQ (Q : Exit → Act → World → Prop) (K : Act → World → Prop) : Exit → Act → World → Prop
  | .normal, a, w => K a w
  | e, a, w => Q e a w
section
variable {P : Program} {ops : Array Oper} {Q : Exit → Act → World → Prop} {md : Region.Mode}
theorem Oper.wp_seg {o : Oper} {a : Act} {w : World} {N K : Act → World → Prop} (h : o.wp P a w N (segQ Q K)) : o.wp P a w N Q := by
  unfold Oper.wp at *
  generalize (execOp a.eval o).run P w = r at *
  cases r with
  | ok n w' =>
    cases n <;> simp only [Oper.upon] at h ⊢ <;> first
      | exact h
      | exact Calls.mono h fun e w'' he => by cases e <;> exact he
  | halt x w' => cases x <;> simp only [Oper.upon] at h ⊢ <;> exact h
theorem wpOp_seg {i : Nat} {a : Act} {w : World} {N K : Act → World → Prop} (h : wpOp P ops (segQ Q K) i N a w) : wpOp P ops Q i N a w := by
  unfold wpOp at *
  split
  · simpa [*] using h
  · rename_i o ho
    simp only [ho] at h
    split
    · rename_i hw
      simp only [hw, if_true] at h
      exact h.imp Oper.wp_seg fun h2 => ⟨h2.1, h2.2⟩
    · rename_i hw
      simp only [hw] at h
      exact h
theorem all2_part : ∀ (l : List Oper) (k : Nat), (∀ j, j < l.length → l[j]? = ops[k + j]?) → All2 ops (List.range' k l.length) l
  | [], k, _ => .nil
  | o :: l, k, h => by
    rw [List.length_cons, List.range'_succ]
    exact .cons (by simpa using (h 0 (by simp)).symm) (all2_part l (k + 1) fun j hj => by have := h (j + 1) (by simpa using hj); simpa [Nat.add_assoc, Nat.add_comm 1 j] using this)

/-! ### an operation beside a chain of reads -/
def Runs (P : Program) (ops : Array Oper) (i : Nat) (v : Value) (a : Act) (w w' : World) : Prop :=
  ∃ o, ops[i]? = some o ∧ Region.wanted o (yielded ops a.tmps) = true ∧ (execOp a.eval o).run P w = .ok (.value v) w'
def putOp (ops : Array Oper) (i : Nat) (v : Value) (a : Act) : Act := a.put ((ops[i]?).bind (·.dst)) v
def RdAll (P : Program) (ops : Array Oper) : List Nat → List Value → Act → World → Prop
  | i :: r, v :: vs, a, w => Runs P ops i v a w w ∧ RdAll P ops r vs (putOp ops i v a) w
  | [], [], _, _ => True
  | _, _, _, _ => False
def apartB (ops : Array Oper) (i j : Nat) : Bool := match ops[i]?, ops[j]? with
  | some x, some y => x.apart ops y
  | _, _ => false
theorem Runs.put (hsel : Region.noSelect ops = true) {i j : Nat} {v u : Value} {a : Act} {w w' : World} (hap : apartB ops j i = true) (h : Runs P ops i v a w w') : Runs P ops i v (putOp ops j u a) w w' := by
  obtain ⟨o, ho, hw, hr⟩ := h
  unfold apartB at hap
  rw [ho] at hap
  cases hj : ops[j]? with
  | none => rw [hj] at hap; cases hap
  | some oj =>
    rw [hj] at hap
    obtain ⟨h1, _, _⟩ := Oper.apart_spec hap
    refine ⟨o, ho, ?_, ?_⟩
    · unfold putOp
      rw [hj, Option.bind_some, wanted_put o a oj.dst u h1]
      exact hw
    · unfold putOp
      rw [hj, Option.bind_some, execOp_put o (fun cs b => Region.noSelect_spec hsel i o cs b ho) a oj.dst u h1]
      exact hr
theorem put_swap {i j : Nat} {v u : Value} {a : Act} (hap : apartB ops i j = true) : putOp ops i v (putOp ops j u a) = putOp ops j u (putOp ops i v a) := by
  unfold apartB at hap
  cases hi : ops[i]? with
  | none => rw [hi] at hap; cases hap
  | some oi => cases hj : ops[j]? with
    | none => rw [hi, hj] at hap; cases hap
    | some oj =>
      rw [hi, hj] at hap
      obtain ⟨_, h2, _⟩ := Oper.apart_spec hap
      unfold putOp
      rw [hi, hj]
      exact (Act.put_comm a v u h2).symm
theorem Runs.wpOp {i : Nat} {v : Value} {a : Act} {w w' : World} {K : Act → World → Prop} (h : Runs P ops i v a w w') (hK : K (putOp ops i v a) w') : wpOp P ops Q i K a w := by
  obtain ⟨o, ho, hw, hr⟩ := h
  unfold Go.wpOp
  simp only [ho]
  rw [if_pos hw]
  refine .inl ?_
  unfold Oper.wp
  rw [hr]
  unfold putOp at hK
  rw [ho, Option.bind_some] at hK
  exact hK
theorem RdAll.put (hsel : Region.noSelect ops = true) {j : Nat} {u : Value} {w : World} : ∀ {c : List Nat} {vs : List Value} {a : Act}, RdAll P ops c vs a w → (∀ i ∈ c, apartB ops i j = true ∧ apartB ops j i = true) → RdAll P ops c vs (putOp ops j u a) w
  | [], [], _, _, _ => trivial
  | [], _ :: _, _, h, _ => h.elim
  | _ :: _, [], _, h, _ => h.elim
  | i :: r, v :: vs, a, h, hap => by
    have h1 := hap i (List.mem_cons_self ..)
    refine ⟨h.1.put hsel h1.2, ?_⟩
    rw [put_swap h1.1]
    exact h.2.put hsel fun k hk => hap k (List.mem_cons_of_mem _ hk)
end
end Go.Proofs.YtjgkdfghjeodeaaGreatDoor

namespace Go.Proofs.YtjgkdfghjeodeaaGreatDoor
open Go.RowKit

section
variable {P : Program} {ops : Array Oper} {Q : Exit → Act → World → Prop} {md : Region.Mode} {S : World → Prop}
/-- whatever order is picked, and S holds behind every operation before number z -/
def wpAnyD (P : Program) (md : Region.Mode) (ops : Array Oper) (Q : Exit → Act → World → Prop) (S : World → Prop) (z : Nat) : Nat → Array Bool → Act → World → Prop
  | 0, listed, a, w => Region.ready md ops listed = [] ∧ Q .normal a w
  | fuel + 1, listed, a, w =>
    (Region.ready md ops listed = [] → Q .normal a w) ∧
    ∀ i ∈ Region.ready md ops listed, wpOp P ops Q i (fun a' w' => (i < z → S w') ∧ wpAnyD P md ops Q S z fuel (listed.setIfInBounds i true) a' w') a w
theorem wpAny_of_D {z : Nat} : ∀ (fuel : Nat) (listed : Array Bool) (a : Act) (w : World), wpAnyD P md ops Q S z fuel listed a w → wpAny P md ops Q fuel listed a w
  | 0, _, _, _, h => h
  | fuel + 1, _, _, _, h => ⟨h.1, fun i hi => wpOp_mono (fun a' w' h' => wpAny_of_D fuel _ a' w' h'.2) (h.2 i hi)⟩
/-- those from z on wait for number i -/
def lateB (md : Region.Mode) (ops : Array Oper) (z i : Nat) : Bool := (List.range ops.size).all fun j => decide (j < z) || match ops[j]? with
  | some o => o.after.any fun e => Region.binds md e && e.on == i
  | none => true
theorem late_spec {z i j : Nat} {oj : Oper} (h : lateB md ops z i = true) (hj : ops[j]? = some oj) (hz : z ≤ j) : ∃ e ∈ oj.after, Region.binds md e = true ∧ e.on = i := by
  unfold lateB at h
  have h1 := List.all_eq_true.1 h j (List.mem_range.2 (Array.getElem?_eq_some_iff.1 hj).1)
  rw [hj] at h1
  simp only [Bool.or_eq_true, decide_eq_true_eq] at h1
  rcases h1 with h1 | h1
  · omega
  · obtain ⟨e, he, hb⟩ := Array.any_eq_true'.1 h1
    simp only [Bool.and_eq_true, beq_iff_eq] at hb
    exact ⟨e, he, hb.1, hb.2⟩
theorem wpAnyD_first {z i : Nat} {oi : Oper} {v : Value} (hi : ops[i]? = some oi) (hsel : ∀ (j : Nat) (o : Oper) cs b, ops[j]? = some o → o.op ≠ .select cs b)
    (hQ : ∀ c a w, Q (.panic c) (a.put oi.dst v) w → Q (.panic c) a w) (hlate : lateB md ops z i = true) :
    ∀ (fuel : Nat) (listed : Array Bool) (a : Act) (w : World),
      (∀ j oj, ops[j]? = some oj → j ≠ i → listed.getD j true = false → (∀ e ∈ oj.after, Region.binds md e = true → e.on ≠ i) → oi.apart ops oj = true) →
      i ∈ Region.ready md ops listed → YieldsIf P ops S oi v a → S w →
      wpAnyD P md ops Q S z fuel (listed.setIfInBounds i true) (a.put oi.dst v) w → wpAnyD P md ops Q S z (fuel + 1) listed a w := by
  intro fuel
  induction fuel with
  | zero =>
    intro listed a w _ hr hy hS H
    refine ⟨fun h => (by rw [h] at hr; cases hr), fun j hj => ?_⟩
    by_cases hji : j = i
    · subst hji; exact hy.wpOp hi hS ⟨fun _ => hS, H⟩
    · have := ready_mono hj hji
      rw [H.1] at this
      cases this
  | succ fuel ih =>
    intro listed a w hfree hr hy hS H
    refine ⟨fun h => (by rw [h] at hr; cases hr), fun j hj => ?_⟩
    by_cases hji : j = i
    · subst hji; exact hy.wpOp hi hS ⟨fun _ => hS, H⟩
    · have h1 := H.2 j (ready_mono hj hji)
      obtain ⟨hjun, oj, hoj, hall⟩ := mem_ready.1 hj
      have hnot : ∀ e ∈ oj.after, Region.binds md e = true → e.on ≠ i := fun e he hb heq => by
        have h1 := hall e he hb
        have h0 := (mem_ready.1 hr).1
        rw [heq] at h1
        rcases Nat.lt_or_ge i listed.size with h' | h'
        · simp [h'] at h0 h1; rw [h0] at h1; cases h1
        · simp [Array.getElem?_eq_none h'] at h1
      have hjz : j < z := by
        rcases Nat.lt_or_ge j z with h' | h'
        · exact h'
        · obtain ⟨e, he, hb, heq⟩ := late_spec hlate hoj h'
          exact absurd heq (hnot e he hb)
      have h2 := wpOp_putIf hoj (hfree j oj hoj hji hjun hnot) (fun cs b => hsel i oi cs b hi) (fun cs b => hsel j oj cs b hoj) hQ hy h1
      have hfree' : ∀ k ok, ops[k]? = some ok → k ≠ i → (listed.setIfInBounds j true).getD k true = false →
          (∀ e ∈ ok.after, Region.binds md e = true → e.on ≠ i) → oi.apart ops ok = true := fun k ok hk hki hun hno => by
        refine hfree k ok hk hki ?_ hno
        by_cases hjk : j = k
        · subst hjk; exact hjun
        · rw [Go.getD_set_ne true hjk] at hun; exact hun
      refine wpOp_mono (fun a' w' h3 => ⟨h3.2.1, ih (listed.setIfInBounds j true) a' w' hfree' (ready_mono hr (Ne.symm hji)) h3.1 (h3.2.1 hjz) ?_⟩) h2
      rw [Array.setIfInBounds_comm _ _ hji]
      exact h3.2.2

/-- reads, one behind the other -/
def RdL (P : Program) : List Oper → List Value → Act → World → Prop
  | o :: l, v :: vs, a, w => (execOp a.eval o).run P w = .ok (.value v) w ∧ RdL P l vs (a.put o.dst v) w
  | [], [], _, _ => True
  | _, _, _, _ => False
def putL : List Oper → List Value → Act → Act
  | o :: l, v :: vs, a => putL l vs (a.put o.dst v)
  | _, _, a => a
/-- the chain behind the reads: S is asked behind the first k of it -/
def chainW (P : Program) (Q : Exit → Act → World → Prop) (S : World → Prop) : Nat → List Oper → Act → World → Prop
  | _, [], a, w => Q .normal a w
  | k, o :: r, a, w => o.wp P a w (fun a' w' => (0 < k → S w') ∧ chainW P Q S (k - 1) r a' w') Q
def readB (md : Region.Mode) (ops : Array Oper) (z : Nat) : List Nat → Array Bool → Bool
  | [], _ => true
  | i :: r, listed => (Region.free md ops listed i && ((Region.ready md ops listed).contains i && lateB md ops z i)) && readB md ops z r (listed.setIfInBounds i true)
def endB (md : Region.Mode) (ops : Array Oper) : List Nat → Array Bool → Bool
  | [], listed => (Region.ready md ops listed).isEmpty
  | i :: r, listed => decide (Region.ready md ops listed = [i]) && endB md ops r (listed.setIfInBounds i true)

theorem chain_any {z : Nat} (hg : ∀ (i : Nat) o, ops[i]? = some o → o.guard = none) : ∀ (c : List Nat) (l : List Oper) (k i0 : Nat) (listed : Array Bool) (a : Act) (w : World), All2 ops c l → c = List.range' i0 c.length → k = z - i0 → endB md ops c listed = true → chainW P Q S k l a w → wpAnyD P md ops Q S z c.length listed a w
  | _, _, k, i0, listed, a, w, .nil, _, _, hB, h => ⟨by simpa [endB] using hB, h⟩
  | _, _, k, i0, listed, a, w, .cons (i := i) (o := o) (r := r) (l := l) hi t, hc, hk, hB, h => by
    rw [endB, Bool.and_eq_true, decide_eq_true_eq] at hB
    rw [List.length_cons, List.range'_succ, List.cons.injEq] at hc
    obtain ⟨rfl, hc⟩ := hc
    refine ⟨fun h0 => (by rw [hB.1] at h0; cases h0), fun j hj => ?_⟩
    rw [hB.1] at hj
    obtain rfl : j = i := by simpa using hj
    unfold wpOp
    simp only [hi]
    have hw : Region.wanted o (yielded ops a.tmps) = true := by simp [Region.wanted, hg j o hi]
    rw [if_pos hw]
    refine .inl (Oper.wp_mono (fun a' w' h' => ⟨fun hjz => h'.1 (by omega), ?_⟩) h)
    exact chain_any hg r l (k - 1) (j + 1) _ a' w' t hc (by omega) hB.2 h'.2
theorem reads_any {z : Nat} (hsel : Region.noSelect ops = true) (hg : ∀ (i : Nat) o, ops[i]? = some o → o.guard = none) (hQ : ∀ c (a : Act) d v w, Q (.panic c) (a.put d v) w → Q (.panic c) a w) {n : Nat} {w : World} (hS : S w) (fin : Array Bool) : ∀ (c : List Nat) (l : List Oper) (vs : List Value) (listed : Array Bool) (a : Act), All2 ops c l → readB md ops z c listed = true → setAll listed c = fin →
    (∀ W, S W → RdL P l vs a W) → wpAnyD P md ops Q S z n fin (putL l vs a) w → wpAnyD P md ops Q S z (c.length + n) listed a w
  | _, _, [], listed, a, .nil, _, hf, _, h => by subst hf; rw [List.length_nil, Nat.zero_add]; exact h
  | _, _, _ :: _, listed, a, .nil, _, _, hr, _ => (hr w hS).elim
  | _, _, [], listed, a, .cons _ _, _, _, hr, _ => (hr w hS).elim
  | _, _, v :: vs, listed, a, .cons (i := i) (o := o) (r := r) (l := l) hi t, hB, hf, hr, h => by
    rw [readB, Bool.and_eq_true, Bool.and_eq_true, Bool.and_eq_true] at hB
    obtain ⟨⟨b1, b2, b3⟩, b4⟩ := hB
    have hl : (i :: r).length + n = (r.length + n) + 1 := by rw [List.length_cons]; omega
    rw [hl]
    refine wpAnyD_first hi (Region.noSelect_spec hsel) (fun c a w => hQ c a _ _ w) b3 (r.length + n) listed a w (Region.free_spec hi b1) (by simpa using b2) (.inl ⟨by simp [Region.wanted, hg i o hi], fun W hW => (hr W hW).1⟩) hS ?_
    exact reads_any hsel hg hQ hS fin r l vs _ _ t b4 hf (fun W hW => (hr W hW).2) h

/-- **A drawn region: its first r operations read what S says, the others are a chain; behind number z all have been read.** -/
theorem wp_region_reads {id : Nat} {a : Act} {w : World} {l : List Oper} (hm : P.follows .mixedOrders = true) (r z : Nat) (vs : List Value) (S : World → Prop)
    (hB : (Region.noSelect l.toArray && ((l.all fun o => o.guard.isNone) && (readB .any l.toArray z (List.range' 0 r) (Array.replicate l.length false) && (endB .any l.toArray (List.range' r (l.length - r)) (setAll (Array.replicate l.length false) (List.range' 0 r)) && decide (r ≤ l.length))))) = true)
    (hQ : ∀ c (a : Act) d v w, Q (.panic c) (a.put d v) w → Q (.panic c) a w)
    (hS : S w.drew) (hR : ∀ W, S W → RdL P (l.take r) vs a W) (h : chainW P Q S (z - r) (l.drop r) (putL (l.take r) vs a) w.drew) : (Code.region id l.toArray true).wp P Q a w := by
  simp only [Bool.and_eq_true, decide_eq_true_eq] at hB
  obtain ⟨h1, h2, h3, h4, h5⟩ := hB
  have hg : ∀ (i : Nat) o, l.toArray[i]? = some o → o.guard = none := fun i o ho => by
    have := List.all_eq_true.1 h2 o (List.mem_of_getElem? (by simpa using ho))
    simpa using this
  have l1 : (l.take r).length = r := by simp; omega
  have l2 : (l.drop r).length = l.length - r := by simp
  have a1 : All2 l.toArray (List.range' 0 r) (l.take r) := by
    have := all2_part (ops := l.toArray) (l.take r) 0 fun j hj => by
      rw [List.getElem?_take, if_pos (by omega)]; simp
    rwa [l1] at this
  have a2 : All2 l.toArray (List.range' r (l.length - r)) (l.drop r) := by
    have := all2_part (ops := l.toArray) (l.drop r) r fun j hj => by
      rw [List.getElem?_drop]; simp
    rwa [l2] at this
  have c1 := chain_any (z := z) (md := .any) hg _ _ (z - r) r _ _ _ a2 (by rw [List.length_range']) rfl h4 h
  rw [List.length_range'] at c1
  have c2 := reads_any (md := .any) h1 hg hQ hS _ _ _ vs _ a a1 h3 rfl hR c1
  rw [List.length_range', show r + (l.length - r) = l.length by omega] at c2
  exact wp_region_any hm (by simpa using wpAny_of_D _ _ _ _ c2)
/-- a step of a chain, from the steps of a region -/
theorem chain_step {k : Nat} {o : Oper} {r : List Oper} {a : Act} {w : World} (ops : Array Oper) (hg : o.guard = none) (h : if Region.wanted o (yielded ops a.tmps) = true then Oper.wp P o a w (fun a' w' => (0 < k → S w') ∧ chainW P Q S (k - 1) r a' w') Q else True) : chainW P Q S k (o :: r) a w := by
  have hw : Region.wanted o (yielded ops a.tmps) = true := by simp [Region.wanted, hg]
  rw [if_pos hw] at h
  exact h
end
end Go.Proofs.YtjgkdfghjeodeaaGreatDoor
