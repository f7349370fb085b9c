/- A drawn region whose order is forced but for moves: it goes in one order. -/
import Derived.Test.YtjienelkjpodkaaL10
namespace Go.Proofs.Ytjienelkjpodkaa
open Go.RowKit

def isMove (ops : Array Oper) (i : Nat) : Bool := match ops[i]? with
  | some { op := .move _, .. } => true
  | _ => false
/-- at each place the operation is the only one that is ready, or a move that nobody who could come before touches -/
def ordB (md : Region.Mode) (ops : Array Oper) : List Nat → Array Bool → Bool
  | [], listed => (Region.ready md ops listed).isEmpty
  | i :: r, listed => (decide (Region.ready md ops listed = [i]) || ((Region.ready md ops listed).contains i && (Region.free md ops listed i && isMove ops i))) && ordB md ops r (listed.setIfInBounds i true)
/-- a list with some neighbours exchanged -/
def sw {α : Type} : List Bool → List α → List α
  | true :: bs, x :: y :: r => y :: x :: sw bs r
  | false :: bs, x :: r => x :: sw bs r
  | _, r => r
section
variable {P : Program} {ops : Array Oper} {Q : Exit → Act → World → Prop} {md : Region.Mode}
theorem move_run {o : Oper} {x : Operand} (ho : o.op = .move x) (a : Act) (w : World) : (execOp a.eval o).run P w = .ok (.value (a.eval x)) w := by
  unfold execOp
  rw [ho]
  rfl
theorem move_asks {o : Oper} {x : Operand} (ho : o.op = .move x) (a : Act) (w : World) : ¬ o.asks P a w := by
  intro h
  have h1 := h.1
  unfold execOp at h1
  rw [ho] at h1
  have : noRoomEvent ∈ (#[] : Array _) := h1
  simp at this
theorem wpAny_of_ord (hsel : Region.noSelect ops = true) (hQ : ∀ c (a : Act) d v w, Q (.panic c) (a.put d v) w → Q (.panic c) a w) :
    ∀ (r : List Nat) (listed : Array Bool) (a : Act) (w : World), (∀ i ∈ r, (ops[i]?).isSome = true) → ordB md ops r listed = true → wpOps P ops Q r a w → wpAny P md ops Q r.length listed a w
  | [], listed, a, w, _, hB, h => ⟨by simpa [ordB] using hB, h⟩
  | i :: r, listed, a, w, hin, hB, h => by
    rw [ordB, Bool.and_eq_true, Bool.or_eq_true, decide_eq_true_eq] at hB
    rw [wpOps_cons] at h
    obtain ⟨o, ho⟩ := Option.isSome_iff_exists.1 (hin i (List.mem_cons_self ..))
    have hin' : ∀ j ∈ r, (ops[j]?).isSome = true := fun j hj => hin j (List.mem_cons_of_mem _ hj)
    rcases hB.1 with h1 | h1
    · refine ⟨fun h0 => (by rw [h1] at h0; cases h0), fun j hj => ?_⟩
      rw [h1] at hj
      obtain rfl : j = i := by simpa using hj
      exact wpOp_mono (fun a' w' h' => wpAny_of_ord hsel hQ r _ a' w' hin' hB.2 h') h
    · rw [Bool.and_eq_true, Bool.and_eq_true] at h1
      obtain ⟨hr, hf, hmv⟩ := h1
      obtain ⟨x, hx⟩ : ∃ x, o.op = .move x := by
        unfold isMove at hmv
        rw [ho] at hmv
        split at hmv
        · next x _ _ _ _ _ e => cases e; exact ⟨_, rfl⟩
        · cases hmv
      unfold wpOp at h
      simp only [ho] at h
      by_cases hw : Region.wanted o (yielded ops a.tmps) = true
      · rw [if_pos hw] at h
        have hk : wpOps P ops Q r (a.put o.dst (a.eval x)) w := by
          rcases h with h | h
          · unfold Oper.wp at h
            rw [move_run hx] at h
            exact h
          · exact absurd h.1 (move_asks hx a w)
        exact wpAny_first ho (Region.noSelect_spec hsel) (fun c a w => hQ c a _ _ w) r.length listed a w (Region.free_spec ho hf) (by simpa using hr) (.inl ⟨hw, fun w' => move_run hx a w'⟩)
          (wpAny_of_ord hsel hQ r _ _ w hin' hB.2 hk)
      · rw [if_neg hw] at h
        exact wpAny_first ho (Region.noSelect_spec hsel) (fun c a w => hQ c a _ _ w) r.length listed a w (Region.free_spec ho hf) (by simpa using hr) (.inr ⟨by simpa using hw, rfl⟩)
          (wpAny_of_ord hsel hQ r _ _ w hin' hB.2 h)

inductive All2 (ops : Array Oper) : List Nat → List Oper → Prop
  | nil : All2 ops [] []
  | cons {i : Nat} {o : Oper} {r : List Nat} {l : List Oper} (h : ops[i]? = some o) (t : All2 ops r l) : All2 ops (i :: r) (o :: l)
theorem All2.ops_list : ∀ {r : List Nat} {l : List Oper}, All2 ops r l → ∀ (a : Act) (w : World), wpList P ops Q l a w → wpOps P ops Q r a w
  | _, _, .nil, a, w, h => h
  | _, _, .cons (i := i) (o := o) hi t, a, w, h => by
    rw [wpOps_cons]
    refine wpOp_mono (fun a' w' h' => t.ops_list a' w' h') (K := wpList P ops Q _) ?_
    unfold wpOp
    simp only [hi]
    exact h
theorem All2.len : ∀ {r : List Nat} {l : List Oper}, All2 ops r l → r.length = l.length
  | _, _, .nil => rfl
  | _, _, .cons _ t => by simp [t.len]
theorem All2.in_ : ∀ {r : List Nat} {l : List Oper}, All2 ops r l → ∀ i ∈ r, (ops[i]?).isSome = true
  | _, _, .nil, i, h => by cases h
  | _, _, .cons hi t, i, h => by
    rcases List.mem_cons.1 h with rfl | h
    · rw [hi]; rfl
    · exact t.in_ i h
theorem All2.sw_ (bs : List Bool) : ∀ {r : List Nat} {l : List Oper}, All2 ops r l → All2 ops (sw bs r) (sw bs l) := by
  induction bs with
  | nil => intro r l h; cases h with
    | nil => exact .nil
    | cons hi t => exact .cons hi t
  | cons b bs ih =>
    intro r l h
    cases b with
    | false => cases h with
      | nil => exact .nil
      | cons hi t => exact .cons hi (ih t)
    | true => cases h with
      | nil => exact .nil
      | cons hi t => cases t with
        | nil => exact .cons hi .nil
        | cons hj t => exact .cons hj (.cons hi (ih t))
theorem all2_from : ∀ (l : List Oper) (k : Nat), (∀ j, l[j]? = ops[k + j]?) → All2 ops (List.range' k l.length) l
  | [], k, _ => .nil
  | o :: l, k, h => by
    rw [List.length_cons, List.range'_succ]
    exact .cons (by simpa using (h 0).symm) (all2_from l (k + 1) fun j => by have := h (j + 1); simpa [Nat.add_assoc, Nat.add_comm 1 j] using this)
theorem sw_len {α : Type} : ∀ (bs : List Bool) (l : List α), (sw bs l).length = l.length
  | [], l => by cases l <;> rfl
  | true :: bs, [] => rfl
  | true :: bs, [x] => rfl
  | true :: bs, x :: y :: r => by simp [sw, sw_len bs r]
  | false :: bs, [] => rfl
  | false :: bs, x :: r => by simp [sw, sw_len bs r]

/-- **A drawn region whose order is forced but for moves.** -/
theorem wp_region_order {id : Nat} {a : Act} {w : World} {l : List Oper} (bs : List Bool) (hm : P.follows .mixedOrders = true) (hB : (Region.noSelect l.toArray && ordB .any l.toArray (sw bs (List.range' 0 l.length)) (Array.replicate l.length false)) = true)
    (hQ : ∀ c (a : Act) d v w, Q (.panic c) (a.put d v) w → Q (.panic c) a w)
    (h : wpList P l.toArray Q (sw bs l) a { w with drawn := w.drawn + 1 }) : (Code.region id l.toArray true).wp P Q a w := by
  rw [Bool.and_eq_true] at hB
  have h2 : All2 l.toArray (List.range' 0 l.length) l := all2_from l 0 fun j => by simp
  have h3 := wpAny_of_ord (P := P) hB.1 hQ _ _ a _ (h2.sw_ bs).in_ hB.2 ((h2.sw_ bs).ops_list a _ h)
  rw [sw_len, List.length_range'] at h3
  exact wp_region_any hm (by simpa using h3)
end
end Go.Proofs.Ytjienelkjpodkaa
namespace Go.Proofs.Ytjienelkjpodkaa
open Go.RowKit

/-- the first k are listed -/
def lst (n k : Nat) : Array Bool := ((List.range n).map fun i => decide (i < k)).toArray
theorem lst_zero (n : Nat) : lst n 0 = Array.replicate n false := by
  unfold lst
  apply Array.ext
  · simp
  · intro i h1 h2; simp
def setAll (L : Array Bool) : List Nat → Array Bool
  | [] => L
  | i :: r => setAll (L.setIfInBounds i true) r
def ordP (md : Region.Mode) (ops : Array Oper) : List Nat → Array Bool → Bool
  | [], _ => true
  | i :: r, listed => (decide (Region.ready md ops listed = [i]) || ((Region.ready md ops listed).contains i && (Region.free md ops listed i && isMove ops i))) && ordP md ops r (listed.setIfInBounds i true)
/-- what is asked behind a part: K at its end, else as the whole -/
def segQ (Q : Exit → Act → World → Prop) (K : Act → World → Prop) : Exit → Act → World → Prop
  | .normal, a, w => K a w
  | e, a, w => Q e a w
section
variable {P : Program} {ops : Array Oper} {Q : Exit → Act → World → Prop} {md : Region.Mode}
theorem Oper.wp_seg {o : Oper} {a : Act} {w : World} {N K : Act → World → Prop} (h : o.wp P a w N (segQ Q K)) : o.wp P a w N Q := by
  unfold Oper.wp at *
  generalize (execOp a.eval o).run P w = r at *
  cases r with
  | ok n w' =>
    cases n <;> simp only [Oper.upon] at h ⊢ <;> first
      | exact h
      | exact Calls.mono h fun e w'' he => by cases e <;> exact he
  | halt x w' => cases x <;> simp only [Oper.upon] at h ⊢ <;> exact h
theorem wpOp_seg {i : Nat} {a : Act} {w : World} {N K : Act → World → Prop} (h : wpOp P ops (segQ Q K) i N a w) : wpOp P ops Q i N a w := by
  unfold wpOp at *
  split
  · simpa [*] using h
  · rename_i o ho
    simp only [ho] at h
    split
    · rename_i hw
      simp only [hw, if_true] at h
      exact h.imp Oper.wp_seg fun h2 => ⟨h2.1, h2.2⟩
    · rename_i hw
      simp only [hw] at h
      exact h
theorem wpAny_of_ordP (hsel : Region.noSelect ops = true) (hQ : ∀ c (a : Act) d v w, Q (.panic c) (a.put d v) w → Q (.panic c) a w) (n : Nat) (fin : Array Bool) :
    ∀ (r : List Nat) (listed : Array Bool) (a : Act) (w : World), (∀ i ∈ r, (ops[i]?).isSome = true) → ordP md ops r listed = true → setAll listed r = fin → wpOps P ops (segQ Q (wpAny P md ops Q n fin)) r a w → wpAny P md ops Q (r.length + n) listed a w
  | [], listed, a, w, _, _, hf, h => by
    subst hf
    rw [List.length_nil, Nat.zero_add]
    exact h
  | i :: r, listed, a, w, hin, hB, hf, h => by
    rw [ordP, Bool.and_eq_true, Bool.or_eq_true, decide_eq_true_eq] at hB
    rw [wpOps_cons] at h
    replace h := wpOp_seg h
    obtain ⟨o, ho⟩ := Option.isSome_iff_exists.1 (hin i (List.mem_cons_self ..))
    have hin' : ∀ j ∈ r, (ops[j]?).isSome = true := fun j hj => hin j (List.mem_cons_of_mem _ hj)
    have hl : (i :: r).length + n = (r.length + n) + 1 := by rw [List.length_cons]; omega
    rw [hl]
    rcases hB.1 with h1 | h1
    · refine ⟨fun h0 => (by rw [h1] at h0; cases h0), fun j hj => ?_⟩
      rw [h1] at hj
      obtain rfl : j = i := by simpa using hj
      exact wpOp_mono (fun a' w' h' => wpAny_of_ordP hsel hQ n fin r _ a' w' hin' hB.2 hf h') h
    · rw [Bool.and_eq_true, Bool.and_eq_true] at h1
      obtain ⟨hr, hfr, hmv⟩ := h1
      obtain ⟨x, hx⟩ : ∃ x, o.op = .move x := by
        unfold isMove at hmv
        rw [ho] at hmv
        split at hmv
        · next x _ _ _ _ _ e => cases e; exact ⟨_, rfl⟩
        · cases hmv
      unfold wpOp at h
      simp only [ho] at h
      by_cases hw : Region.wanted o (yielded ops a.tmps) = true
      · rw [if_pos hw] at h
        have hk : wpOps P ops (segQ Q (wpAny P md ops Q n fin)) r (a.put o.dst (a.eval x)) w := by
          rcases h with h | h
          · unfold Oper.wp at h
            rw [move_run hx] at h
            exact h
          · exact absurd h.1 (move_asks hx a w)
        exact wpAny_first ho (Region.noSelect_spec hsel) (fun c a w => hQ c a _ _ w) (r.length + n) listed a w (Region.free_spec ho hfr) (by simpa using hr) (.inl ⟨hw, fun w' => move_run hx a w'⟩)
          (wpAny_of_ordP hsel hQ n fin r _ _ w hin' hB.2 hf hk)
      · rw [if_neg hw] at h
        exact wpAny_first ho (Region.noSelect_spec hsel) (fun c a w => hQ c a _ _ w) (r.length + n) listed a w (Region.free_spec ho hfr) (by simpa using hr) (.inr ⟨by simpa using hw, rfl⟩)
          (wpAny_of_ordP hsel hQ n fin r _ _ w hin' hB.2 hf h)

theorem all2_part : ∀ (l : List Oper) (k : Nat), (∀ j, j < l.length → l[j]? = ops[k + j]?) → All2 ops (List.range' k l.length) l
  | [], k, _ => .nil
  | o :: l, k, h => by
    rw [List.length_cons, List.range'_succ]
    exact .cons (by simpa using (h 0 (by simp)).symm) (all2_part l (k + 1) fun j hj => by have := h (j + 1) (by simpa using hj); simpa [Nat.add_assoc, Nat.add_comm 1 j] using this)

theorem wp_region_lst {id : Nat} {a : Act} {w : World} {l : List Oper} {N : Nat} (hm : P.follows .mixedOrders = true) (hN : l.length = N)
    (h : wpAny P .any l.toArray Q N (lst N 0) a { w with drawn := w.drawn + 1 }) : (Code.region id l.toArray true).wp P Q a w :=
  wp_region_any hm (by subst hN; rw [lst_zero] at h; simpa using h)

/-- **A part of a drawn region whose order is forced but for moves.** -/
theorem wpAny_seg {a : Act} {w : World} {l : List Oper} {N : Nat} (hN : l.length = N) (k m n : Nat) (bs : List Bool)
    (hB : (Region.noSelect l.toArray && (ordP .any l.toArray (sw bs (List.range' k m)) (lst N k) && (decide (setAll (lst N k) (sw bs (List.range' k m)) = lst N (k + m)) && decide (k + m ≤ N)))) = true)
    (hQ : ∀ c (a : Act) d v w, Q (.panic c) (a.put d v) w → Q (.panic c) a w)
    (h : wpList P l.toArray (segQ Q (wpAny P .any l.toArray Q n (lst N (k + m)))) (sw bs ((l.drop k).take m)) a w) : wpAny P .any l.toArray Q (m + n) (lst N k) a w := by
  simp only [Bool.and_eq_true, decide_eq_true_eq] at hB
  obtain ⟨h1, h2, h3, h4⟩ := hB
  have hl : ((l.drop k).take m).length = m := by simp; omega
  have h5 : All2 l.toArray (List.range' k m) ((l.drop k).take m) := by
    have := all2_part (ops := l.toArray) ((l.drop k).take m) k fun j hj => by
      rw [hl] at hj
      rw [List.getElem?_take, if_pos hj, List.getElem?_drop]
      simp
    rwa [hl] at this
  have h6 := wpAny_of_ordP h1 hQ n _ _ _ a w (h5.sw_ bs).in_ h2 h3 ((h5.sw_ bs).ops_list a w h)
  rw [sw_len, List.length_range'] at h6
  exact h6

/-! ### an operation beside a chain of reads -/
def Runs (P : Program) (ops : Array Oper) (i : Nat) (v : Value) (a : Act) (w w' : World) : Prop :=
  ∃ o, ops[i]? = some o ∧ Region.wanted o (yielded ops a.tmps) = true ∧ (execOp a.eval o).run P w = .ok (.value v) w'
def putOp (ops : Array Oper) (i : Nat) (v : Value) (a : Act) : Act := a.put ((ops[i]?).bind (·.dst)) v
def putAll (ops : Array Oper) : List Nat → List Value → Act → Act
  | i :: r, v :: vs, a => putAll ops r vs (putOp ops i v a)
  | _, _, a => a
def RdAll (P : Program) (ops : Array Oper) : List Nat → List Value → Act → World → Prop
  | i :: r, v :: vs, a, w => Runs P ops i v a w w ∧ RdAll P ops r vs (putOp ops i v a) w
  | [], [], _, _ => True
  | _, _, _, _ => False
def apartB (ops : Array Oper) (i j : Nat) : Bool := match ops[i]?, ops[j]? with
  | some x, some y => x.apart ops y
  | _, _ => false
/-- the chain alone is forced -/
def chB (md : Region.Mode) (ops : Array Oper) : List Nat → Array Bool → Bool
  | [], _ => true
  | i :: r, listed => decide (Region.ready md ops listed = [i]) && chB md ops r (listed.setIfInBounds i true)
/-- at each place of the chain c: its next and j are ready, no others -/
def winB (md : Region.Mode) (ops : Array Oper) (j : Nat) : List Nat → Array Bool → Bool
  | [], listed => decide (Region.ready md ops listed = [j])
  | i :: r, listed => !((Region.ready md ops listed).isEmpty) && (((Region.ready md ops listed).all fun k => k == i || k == j) && (apartB ops i j && (apartB ops j i && (chB md ops (i :: r) (listed.setIfInBounds j true) && winB md ops j r (listed.setIfInBounds i true)))))

theorem Runs.put (hsel : Region.noSelect ops = true) {i j : Nat} {v u : Value} {a : Act} {w w' : World} (hap : apartB ops j i = true) (h : Runs P ops i v a w w') : Runs P ops i v (putOp ops j u a) w w' := by
  obtain ⟨o, ho, hw, hr⟩ := h
  unfold apartB at hap
  rw [ho] at hap
  cases hj : ops[j]? with
  | none => rw [hj] at hap; cases hap
  | some oj =>
    rw [hj] at hap
    obtain ⟨h1, _, _⟩ := Oper.apart_spec hap
    refine ⟨o, ho, ?_, ?_⟩
    · unfold putOp
      rw [hj, Option.bind_some, wanted_put o a oj.dst u h1]
      exact hw
    · unfold putOp
      rw [hj, Option.bind_some, execOp_put o (fun cs b => Region.noSelect_spec hsel i o cs b ho) a oj.dst u h1]
      exact hr
theorem put_swap {i j : Nat} {v u : Value} {a : Act} (hap : apartB ops i j = true) : putOp ops i v (putOp ops j u a) = putOp ops j u (putOp ops i v a) := by
  unfold apartB at hap
  cases hi : ops[i]? with
  | none => rw [hi] at hap; cases hap
  | some oi => cases hj : ops[j]? with
    | none => rw [hi, hj] at hap; cases hap
    | some oj =>
      rw [hi, hj] at hap
      obtain ⟨_, h2, _⟩ := Oper.apart_spec hap
      unfold putOp
      rw [hi, hj]
      exact (Act.put_comm a v u h2).symm
theorem Runs.wpOp {i : Nat} {v : Value} {a : Act} {w w' : World} {K : Act → World → Prop} (h : Runs P ops i v a w w') (hK : K (putOp ops i v a) w') : wpOp P ops Q i K a w := by
  obtain ⟨o, ho, hw, hr⟩ := h
  unfold Go.wpOp
  simp only [ho]
  rw [if_pos hw]
  refine .inl ?_
  unfold Oper.wp
  rw [hr]
  unfold putOp at hK
  rw [ho, Option.bind_some] at hK
  exact hK
theorem wpAny_chain {n : Nat} : ∀ (c : List Nat) (vs : List Value) (listed : Array Bool) (a : Act) (w : World), chB md ops c listed = true → RdAll P ops c vs a w → wpAny P md ops Q n (setAll listed c) (putAll ops c vs a) w → wpAny P md ops Q (c.length + n) listed a w
  | [], [], listed, a, w, _, _, h => by rw [List.length_nil, Nat.zero_add]; exact h
  | [], _ :: _, _, _, _, _, h, _ => h.elim
  | _ :: _, [], _, _, _, _, h, _ => h.elim
  | i :: r, v :: vs, listed, a, w, hB, hr, h => by
    rw [chB, Bool.and_eq_true, decide_eq_true_eq] at hB
    have hl : (i :: r).length + n = (r.length + n) + 1 := by rw [List.length_cons]; omega
    rw [hl]
    refine ⟨fun h0 => (by rw [hB.1] at h0; cases h0), fun j hj => ?_⟩
    rw [hB.1] at hj
    obtain rfl : j = i := by simpa using hj
    exact hr.1.wpOp (wpAny_chain r vs _ _ w hB.2 hr.2 h)
theorem win_apart {j : Nat} : ∀ {c : List Nat} {listed : Array Bool}, winB md ops j c listed = true → ∀ i ∈ c, apartB ops i j = true ∧ apartB ops j i = true
  | [], _, _, _, h => by cases h
  | i :: r, listed, hB, k, hk => by
    rw [winB] at hB
    simp only [Bool.and_eq_true] at hB
    obtain ⟨_, _, b3, b4, _, b6⟩ := hB
    rcases List.mem_cons.1 hk with rfl | hk
    · exact ⟨b3, b4⟩
    · exact win_apart b6 k hk
theorem RdAll.put (hsel : Region.noSelect ops = true) {j : Nat} {u : Value} {w : World} : ∀ {c : List Nat} {vs : List Value} {a : Act}, RdAll P ops c vs a w → (∀ i ∈ c, apartB ops i j = true ∧ apartB ops j i = true) → RdAll P ops c vs (putOp ops j u a) w
  | [], [], _, _, _ => trivial
  | [], _ :: _, _, h, _ => h.elim
  | _ :: _, [], _, h, _ => h.elim
  | i :: r, v :: vs, a, h, hap => by
    have h1 := hap i (List.mem_cons_self ..)
    refine ⟨h.1.put hsel h1.2, ?_⟩
    rw [put_swap h1.1]
    exact h.2.put hsel fun k hk => hap k (List.mem_cons_of_mem _ hk)
theorem wpAny_winP (hsel : Region.noSelect ops = true) {n j : Nat} {u : Value} {w' : World} (fin : Array Bool) : ∀ (c : List Nat) (vs : List Value) (listed : Array Bool) (a : Act) (w : World), winB md ops j c listed = true →
    setAll (listed.setIfInBounds j true) c = fin → RdAll P ops c vs a w → RdAll P ops c vs a w' → Runs P ops j u a w w' →
    wpAny P md ops Q n fin (putAll ops c vs (putOp ops j u a)) w' → wpAny P md ops Q (c.length + 1 + n) listed a w
  | [], [], listed, a, w, hB, hf, _, _, hj, h => by
    rw [winB, decide_eq_true_eq] at hB
    have hl : ([] : List Nat).length + 1 + n = n + 1 := by simp; omega
    rw [hl]
    refine ⟨fun h0 => (by rw [hB] at h0; cases h0), fun k hk => ?_⟩
    rw [hB] at hk
    obtain rfl : k = j := by simpa using hk
    refine hj.wpOp ?_
    subst hf
    exact h
  | [], _ :: _, _, _, _, _, _, h, _, _, _ => h.elim
  | _ :: _, [], _, _, _, _, _, h, _, _, _ => h.elim
  | i :: r, v :: vs, listed, a, w, hB, hf, h1, h2, hj, h => by
    have hap := win_apart hB
    rw [winB] at hB
    simp only [Bool.and_eq_true, Bool.not_eq_true', List.isEmpty_eq_false_iff, List.all_eq_true, Bool.or_eq_true, beq_iff_eq] at hB
    obtain ⟨b1, b2, b3, b4, b5, b6⟩ := hB
    have hl : (i :: r).length + 1 + n = ((r.length + 1 + n)) + 1 := by rw [List.length_cons]; omega
    rw [hl]
    refine ⟨fun h0 => absurd h0 b1, fun k hk => ?_⟩
    by_cases hkj : k = j
    · subst hkj
      refine hj.wpOp ?_
      have hch : RdAll P ops (i :: r) (v :: vs) (putOp ops k u a) w' := h2.put hsel hap
      have := wpAny_chain (n := n) (Q := Q) (i :: r) (v :: vs) _ _ w' b5 hch (by rw [hf]; exact h)
      have hl2 : (i :: r).length + n = r.length + 1 + n := by rw [List.length_cons]
      rwa [hl2] at this
    · obtain rfl : k = i := (b2 k hk).resolve_right hkj
      refine h1.1.wpOp ?_
      refine wpAny_winP hsel fin r vs _ _ w b6 ?_ h1.2 h2.2 (hj.put hsel b3) ?_
      · rw [← hf, setAll, Array.setIfInBounds_comm _ _ hkj]
      · rw [← put_swap b3]
        exact h

/-- **An operation beside a chain of reads.** -/
theorem wpAny_win {a : Act} {w w' : World} {l : List Oper} {N : Nat} (k n j : Nat) (c : List Nat) (vs : List Value) (u : Value)
    (hB : (Region.noSelect l.toArray && (winB .any l.toArray j c (lst N k) && decide (setAll ((lst N k).setIfInBounds j true) c = lst N (k + c.length + 1)))) = true)
    (h1 : RdAll P l.toArray c vs a w) (h2 : RdAll P l.toArray c vs a w') (hj : Runs P l.toArray j u a w w')
    (h : wpAny P .any l.toArray Q n (lst N (k + c.length + 1)) (putAll l.toArray c vs (putOp l.toArray j u a)) w') : wpAny P .any l.toArray Q (c.length + 1 + n) (lst N k) a w := by
  simp only [Bool.and_eq_true, decide_eq_true_eq] at hB
  exact wpAny_winP hB.1 _ c vs _ a w hB.2.1 hB.2.2 h1 h2 hj h
def putDs : List Nat → List Value → Act → Act
  | d :: r, v :: vs, a => putDs r vs (a.put (some d) v)
  | _, _, a => a
theorem putAll_ds : ∀ (c : List Nat) (ds : List Nat) (vs : List Value) (a : Act), (c.map fun i => (ops[i]?).bind (·.dst)) = ds.map some → putAll ops c vs a = putDs ds vs a
  | [], [], vs, a, _ => by cases vs <;> rfl
  | [], _ :: _, _, _, h => by simp at h
  | _ :: _, [], _, _, h => by simp at h
  | i :: c, d :: ds, [], a, _ => rfl
  | i :: c, d :: ds, v :: vs, a, h => by
    rw [List.map_cons, List.map_cons, List.cons.injEq] at h
    rw [putAll, putDs, putAll_ds c ds vs _ h.2]
    unfold putOp
    rw [h.1]
theorem wpAny_win2 {a : Act} {w w' : World} {l : List Oper} {N : Nat} (k n j : Nat) (c : List Nat) (dj : Nat) (ds : List Nat) (vs : List Value) (u : Value)
    (hB : (Region.noSelect l.toArray && (winB .any l.toArray j c (lst N k) && (decide (setAll ((lst N k).setIfInBounds j true) c = lst N (k + c.length + 1)) && (decide ((c.map fun i => (l.toArray[i]?).bind (·.dst)) = ds.map some) && decide ((l.toArray[j]?).bind (·.dst) = some dj))))) = true)
    (h1 : RdAll P l.toArray c vs a w) (h2 : RdAll P l.toArray c vs a w') (hj : Runs P l.toArray j u a w w')
    (h : wpAny P .any l.toArray Q n (lst N (k + c.length + 1)) (putDs ds vs (a.put (some dj) u)) w') : wpAny P .any l.toArray Q (c.length + 1 + n) (lst N k) a w := by
  simp only [Bool.and_eq_true, decide_eq_true_eq] at hB
  refine wpAny_winP hB.1 _ c vs _ a w hB.2.1 hB.2.2.1 h1 h2 hj ?_
  rw [putAll_ds c ds vs _ hB.2.2.2.1]
  unfold putOp
  rw [hB.2.2.2.2]
  exact h
end
end Go.Proofs.Ytjienelkjpodkaa
