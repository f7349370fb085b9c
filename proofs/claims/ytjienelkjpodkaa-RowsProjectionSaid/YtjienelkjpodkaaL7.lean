/- A region that draws: an invariant over what has come up. -/
import Derived.Test.YtjienelkjpodkaaL6
namespace Go.Proofs.Ytjienelkjpodkaa
open Go.RowKit

/-- a frame in which some slots have turned -/
def puts (a : Act) (f : Nat → Option Value) : Act := { a with tmps := (a.tmps.toList.mapIdx fun i v => (f i).getD v).toArray }

theorem puts_none (a : Act) : puts a (fun _ => none) = a := by
  have h : ∀ l : List Value, (l.mapIdx fun _ v => (none : Option Value).getD v) = l := by
    intro l
    apply List.ext_getElem?
    intro m
    simp
  unfold puts
  rw [h]
theorem puts_put (a : Act) (f : Nat → Option Value) (d : Nat) (v : Value) : (puts a f).put (some d) v = puts a (fun k => if k = d then some v else f k) := by
  simp only [puts, Act.put]
  congr 1
  apply Array.ext_getElem?
  intro m
  rw [Array.getElem?_setIfInBounds]
  by_cases h : d = m
  · subst h
    by_cases hs : d < a.tmps.size <;> simp [hs]
  · simp [h, Ne.symm h]
theorem puts_eval (a : Act) (f : Nat → Option Value) (t : Nat) (h : t < a.tmps.size) : (puts a f).eval (.tmp t) = (f t).getD (a.eval (.tmp t)) := by
  simp [puts, Act.eval, h]
theorem puts_const (a : Act) (f : Nat → Option Value) (v : Value) : (puts a f).eval (.const v) = v := rfl

theorem count_set : ∀ (l : List Bool) (i : Nat), l[i]? = some false → (l.set i true).countP (fun b => !b) + 1 = l.countP (fun b => !b)
  | [], i, h => by simp at h
  | b :: l, 0, h => by
    simp at h; subst h
    simp
  | b :: l, i + 1, h => by
    have := count_set l i (by simpa using h)
    simp only [List.set_cons_succ, List.countP_cons]
    omega
theorem count_zero {l : List Bool} (h : l.countP (fun b => !b) = 0) : ∀ i, l.getD i true = true := by
  intro i
  rw [List.countP_eq_zero] at h
  rw [List.getD_eq_getElem?_getD]
  cases he : l[i]? with
  | none => rfl
  | some b =>
    have := h b (List.mem_of_getElem? he)
    simpa using this

/-- edges that bind lead back -/
def backward (ops : Array Oper) : Bool := (List.range ops.size).all fun i => ((ops[i]?).map fun o => o.after.all fun e => !Region.binds .any e || decide (e.on < i)).getD true

theorem ready_of_min {ops : Array Oper} (hb : backward ops = true) {l : Array Bool} (hr : Region.ready .any ops l = []) : ∀ i, i < ops.size → l.getD i true = true := by
  intro i
  induction i using Nat.strongRecOn with
  | ind i ih =>
    intro hi
    cases hl : l.getD i true with
    | true => rfl
    | false =>
      exfalso
      have hmem : i ∈ Region.ready .any ops l := by
        unfold Region.ready
        rw [List.mem_filter]
        refine ⟨List.mem_range.2 hi, ?_⟩
        have h1 := List.all_eq_true.1 hb i (List.mem_range.2 hi)
        rw [Array.getElem?_eq_getElem hi] at h1 ⊢
        simp only [Option.map_some, Option.getD_some] at h1 ⊢
        rw [hl]
        simp only [Bool.not_false, Bool.true_and]
        rw [Array.all_eq_true] at h1 ⊢
        intro j hj
        have := h1 j hj
        simp only [Bool.or_eq_true, Bool.not_eq_true', decide_eq_true_eq] at this ⊢
        rcases this with h2 | h2
        · exact .inl h2
        · have h3 := ih _ h2 (by omega)
          right
          by_cases hs : (ops[i].after[j]).on < l.size
          · simp [hs] at h3 ⊢; exact h3
          · exfalso
            have h5 : i < l.size := by
              rcases Nat.lt_or_ge i l.size with h | h
              · exact h
              · simp [Array.getD, show ¬ i < l.size by omega] at hl
            omega
      rw [hr] at hmem
      cases hmem

theorem region_inv {P : Program} {ops : Array Oper} {Q : Exit → Act → World → Prop} {n : Nat} {a0 : Act} {w0 : World} (hm : P.follows .mixedOrders = true) (hac : backward ops = true)
    (Inv : (Nat → Bool) → (Nat → Option Value) → World → Prop) (h0 : Inv (fun _ => false) (fun _ => none) w0.drew)
    (hstep : ∀ D f w i o, Inv D f w → ops[i]? = some o → D i = false → (o.after.all fun e => !Region.binds .any e || D e.on) = true →
      wpOp P ops Q i (fun a w => ∃ f', a = puts a0 f' ∧ Inv (fun k => if k = i then true else D k) f' w) (puts a0 f) w)
    (hend : ∀ D f w, (∀ i, i < ops.size → D i = true) → Inv D f w → Q .normal (puts a0 f) w) :
    (Code.region n ops true).wp P Q a0 w0 := by
  refine wp_region_any hm ?_
  refine wpAny_inv (fun l a w => l.size = ops.size ∧ ∃ f, a = puts a0 f ∧ Inv (fun k => l.getD k false) f w) (fun l => l.toList.countP (fun b => !b)) ?_ ?_ ?_ ops.size _ _ _ ?_ ?_
  · rintro l a w ⟨hs, _⟩ hc
    unfold Region.ready
    rw [List.filter_eq_nil_iff]
    intro i hi
    have := count_zero hc i
    have h2 : l.getD i true = true := by
      rw [List.getD_eq_getElem?_getD, Array.getElem?_toList] at this
      rw [Array.getD_eq_getD_getElem?]; exact this
    simp [h2]
  · rintro l a w ⟨hs, f, rfl, hi⟩ hr
    have := ready_of_min hac hr
    refine hend _ f w (fun i hi' => ?_) hi
    have h := this i hi'
    have hs' : i < l.size := by omega
    simp [hs'] at h ⊢
    exact h
  · rintro l a w i ⟨hs, f, rfl, hi⟩ hr
    unfold Region.ready at hr
    rw [List.mem_filter] at hr
    obtain ⟨h1, h2⟩ := hr
    have h1 := List.mem_range.1 h1
    rw [Array.getElem?_eq_getElem h1] at h2
    simp only [Option.map_some, Option.getD_some, Bool.and_eq_true, Bool.not_eq_true'] at h2
    have hil : i < l.size := by omega
    have hD : l.getD i false = false := by
      have := h2.1
      simp [hil] at this ⊢
      exact this
    have hfl : l.toList[i]? = some false := by
      have := h2.1
      simp [hil] at this
      simp [hil, this]
    refine ⟨?_, ?_⟩
    · show (l.setIfInBounds i true).toList.countP _ < l.toList.countP _
      rw [Array.toList_setIfInBounds]
      have := count_set l.toList i hfl
      omega
    · refine wpOp_mono (fun a' w' h => ?_) (hstep (fun k => l.getD k false) f w i ops[i] hi (Array.getElem?_eq_getElem h1) hD h2.2)
      obtain ⟨f', h3, h4⟩ := h
      refine ⟨by simp [hs], f', h3, ?_⟩
      have : (fun k => (l.setIfInBounds i true).getD k false) = fun k => if k = i then true else l.getD k false := by
        funext k
        simp only [Array.getD_eq_getD_getElem?, Array.getElem?_setIfInBounds]
        by_cases hk : i = k
        · subst hk; simp [hil]
        · simp [hk, Ne.symm hk]
      rw [this]
      exact h4
  · refine ⟨by simp, fun _ => none, (puts_none a0).symm, ?_⟩
    have : (fun k => (Array.replicate ops.size false).getD k false) = fun _ => false := by
      funext k
      by_cases hk : k < ops.size <;> simp [hk]
    rw [this]
    exact h0
  · simp [List.countP_replicate]

end Go.Proofs.Ytjienelkjpodkaa
