/- A region that draws: two loads that may come in either order. -/
import Derived.Test.YtekbkdbmkjdgbaaL2
import Derived.RegionTactic
import Derived.ArgAppend
namespace Go.Proofs.Ytekbkdbmkjdgbaa
open Go.RowKit

/-- one operation that hands back a value and leaves the world -/
theorem wpOp_value {P : Program} {ops : Array Oper} {Q : Exit → Act → World → Prop} {i : Nat} {o : Oper} {K : Act → World → Prop} {a : Act} {w w' : World} {v : Value} (ho : ops[i]? = some o) (hg : o.guard = none)
    (e : (execOp a.eval o).run P w = .ok (.value v) w') (h : K (a.put o.dst v) w') : wpOp P ops Q i K a w := by
  refine wpOp_step ho fun K' hK => ?_
  have hw : Region.wanted o (yielded ops a.tmps) = true := by unfold Region.wanted; rw [hg]
  rw [if_pos hw]
  unfold Oper.wp
  rw [e]
  exact hK _ _ h

/-- two operations that may come in either order, each of which only reads -/
theorem wpAny_pair {P : Program} {ops : Array Oper} {Q : Exit → Act → World → Prop} {md : Region.Mode} {fuel i j : Nat} {listed : Array Bool} {a : Act} {w : World} {oi oj : Oper} (vi vj : Value)
    (hr : Region.ready md ops listed = [i, j]) (hri : Region.ready md ops (listed.setIfInBounds i true) = [j]) (hrj : Region.ready md ops (listed.setIfInBounds j true) = [i])
    (hi : ops[i]? = some oi) (hj : ops[j]? = some oj) (gi : oi.guard = none) (gj : oj.guard = none)
    (ei : (execOp a.eval oi).run P w = .ok (.value vi) w) (ej : (execOp a.eval oj).run P w = .ok (.value vj) w)
    (ei' : (execOp (a.put oj.dst vj).eval oi).run P w = .ok (.value vi) w) (ej' : (execOp (a.put oi.dst vi).eval oj).run P w = .ok (.value vj) w)
    (hc : (a.put oj.dst vj).put oi.dst vi = (a.put oi.dst vi).put oj.dst vj)
    (hl : (listed.setIfInBounds j true).setIfInBounds i true = (listed.setIfInBounds i true).setIfInBounds j true)
    (h : wpAny P md ops Q fuel ((listed.setIfInBounds i true).setIfInBounds j true) ((a.put oi.dst vi).put oj.dst vj) w) : wpAny P md ops Q (fuel + 2) listed a w := by
  refine wpAny_all hr (by simp) fun k hk => ?_
  rcases List.mem_cons.1 hk with rfl | hk
  · refine wpOp_value hi gi ei (wpAny_all hri (by simp) fun k hk => ?_)
    rw [List.mem_singleton.1 hk]
    exact wpOp_value hj gj ej' h
  · rw [List.mem_singleton.1 hk]
    refine wpOp_value hj gj ej (wpAny_all hrj (by simp) fun k hk => ?_)
    rw [List.mem_singleton.1 hk]
    refine wpOp_value hi gi ei' ?_
    rw [hc, hl]
    exact h

/-- one operation alone may come -/
theorem wpAny_one {P : Program} {ops : Array Oper} {Q : Exit → Act → World → Prop} {md : Region.Mode} {fuel i : Nat} {listed : Array Bool} {a : Act} {w : World}
    (hr : Region.ready md ops listed = [i]) (h : wpOp P ops Q i (wpAny P md ops Q fuel (listed.setIfInBounds i true)) a w) : wpAny P md ops Q (fuel + 1) listed a w :=
  wpAny_all hr (by simp) fun k hk => by rw [List.mem_singleton.1 hk]; exact h

/-- a call that is met by its contract -/
theorem wpOp_call {P : Program} {ops : Array Oper} {Q : Exit → Act → World → Prop} {i : Nat} {o : Oper} {K : Act → World → Prop} {a : Act} {w : World} (f : FuncId) (args : Array Value) (ho : ops[i]? = some o) (hg : o.guard = none)
    (e : (execOp a.eval o).run P w = .ok (.enter f args) w) (h : Calls P f args w fun e w' => ∃ v, e = .returned v ∧ K (a.put o.dst v) w') : wpOp P ops Q i K a w := by
  refine wpOp_step ho fun K' hK => ?_
  have hw : Region.wanted o (yielded ops a.tmps) = true := by unfold Region.wanted; rw [hg]
  rw [if_pos hw]
  unfold Oper.wp
  rw [e, Oper.upon_enter]
  refine h.mono fun e w' ⟨v, he, hk⟩ => ?_
  subst he
  exact hK _ _ hk

/-- a whole value is read -/
theorem run_load_blk {P : Program} {o : Oper} {ρ : Operand → Value} {w : World} (ty : TypeId) (x : Operand) (ho : o.op = .load ty x)
    (g : Nat) (hx : ρ x = .pointer (some ⟨g, 0, none⟩)) (t : TypeId) (cs : Array Value) (d : TypeDesc) (hg : Blk w g t cs)
    (hu : P.underlying ty = some d) (hd : (match d with | .struct _ | .array _ _ => true | _ => false) = true) (hi : (P.info? ty).map (·.size) = some cs.size) :
    (execOp ρ o).run P w = .ok (.value (.agg cs)) w := by
  unfold execOp
  simp only [ho, hx, Instr.loadAt, Instr.sureAddr, Sem.run_bind, Sem.run_pure, Result.andThen_ok, run_loadVar_row w g t ty cs (0, 0) d hg hu hd hi]
/-- a whole value is stored -/
theorem wpOp_store_blk {P : Program} {ops : Array Oper} {Q : Exit → Act → World → Prop} {i : Nat} {o : Oper} {K : Act → World → Prop} {a : Act} {w : World} (hoi : ops[i]? = some o) (hgd : o.guard = none) (ty : TypeId) (x y : Operand) (ho : o.op = .store ty x y)
    (hd : o.dst = none) (g : Nat) (cells old : Array Value) (t : TypeId) (hx : a.eval x = .pointer (some ⟨g, 0, none⟩)) (hy : a.eval y = .agg cells) (hb : Blk w g t old)
    (hi : (P.info? ty).map (·.size) = some cells.size) (hold : old.size = cells.size) (h1 : cells.all (·.oneCell') = true)
    (h : ∀ w', Blk w' g t cells → Only g w w' → K a w') : wpOp P ops Q i K a w := by
  refine wpOp_step hoi fun K' hK => ?_
  have hw : Region.wanted o (yielded ops a.tmps) = true := by unfold Region.wanted; rw [hgd]
  rw [if_pos hw]
  unfold Oper.wp execOp
  simp only [ho, hx, hy, Instr.storeAt, Instr.sureAddr, Sem.run_bind, Sem.run_pure, Result.andThen_ok, run_storeVar_row w g t ty old cells hb hi hold h1]
  refine hK _ _ ?_
  rw [hd]
  exact h _ (hb.setRow cells) ⟨rfl, rfl, rfl, by simp, fun k hk => setRow_other w g k cells hk⟩

/-- a slice is read out of a cell -/
theorem run_load_cell {P : Program} {o : Oper} {ρ : Operand → Value} {w : World} (ty : TypeId) (x : Operand) (ho : o.op = .load ty x)
    (p : Addr) (hx : ρ x = .pointer (some p)) (v : Value) (hc : w.cell? p = some v) {e : TypeId} (hu : P.underlying ty = some (.slice e)) :
    (execOp ρ o).run P w = .ok (.value v) w := by
  have hagg : (isAgg ty).run P w = .ok false w := by
    unfold isAgg
    rw [Sem.run_bind, run_underlying hu w]
    simp
  unfold execOp
  simp [ho, hx, Instr.loadAt, Instr.sureAddr, Sem.run_bind, loadVar, hagg, hc]

/-- an append of one element to a slice without room: a new row -/
theorem wpList_appendNew {P : Program} {w : World} {ops : Array Oper} {rest : List Oper} {o : Oper} {a : Act} {Q : Exit → Act → World → Prop} (hgd : o.guard = none) (s x : Operand) (t : TypeId)
    (ho : o.op = .call { callee := .builtin .append, args := #[s, x], argTypes := #[t, t] }) {e : TypeId} {b : Nat} (hT : AppT P t e b)
    (A : Option Addr) (n : Nat) (xs : List Value) (hs : a.eval s = .slice A n n) (hl : xs.length = n) {K : Nat → Prop} (hsl : Sl w K A xs)
    (g : Nat) (u : Value) (hx : a.eval x = .slice (some ⟨g, 0, none⟩) 1 1) (hc : w.cell? ⟨g, 0, none⟩ = some u) (h1 : u.oneCell' = true)
    (hb : (n + 1) * b ≤ 140737488355328) (hn : n + 1 ≤ 9223372036854775807)
    (h : ∀ A' c' w', Own w' w.heap.size e A' (n + 1) c' (xs ++ [u]) → w.grownBy w' none → wpList P ops Q rest (a.put o.dst (.slice A' (n + 1) c')) w') :
    wpList P ops Q (o :: rest) a w := by
  obtain ⟨ht, i, z, hi, hz, hsz, hby, hzc⟩ := hT
  refine wpList_append_grows w hgd s x t ho e i z 1 b ht hi hz hsz hby hzc (by omega) A n n xs hs (fun hA => ?_) (by omega) (fun bb hbb j u' hu' => ?_) ⟨g, 0, none⟩ 1 1 [u] hx rfl
    (fun j u' hu' => ?_) (fun u' hu' => by simp at hu'; subst hu'; exact h1) (by omega) (by unfold maxLen; omega) hb (fun v' w' hown hgr => ?_)
  · cases xs with
    | nil => simp at hl; omega
    | cons y ys =>
      obtain ⟨ad, e', _⟩ := hsl 0 y rfl
      rw [hA] at e'; cases e'
  · obtain ⟨ad, e', _, hc'⟩ := hsl j u' hu'
    rw [hbb] at e'; cases e'
    exact hc'
  · cases j with
    | zero => simp at hu'; subst hu'; exact hc
    | succ j => simp at hu'
  · obtain ⟨A', c', rfl, _, _⟩ := own_slice hown
    exact h A' c' w' hown hgr

end Go.Proofs.Ytekbkdbmkjdgbaa
