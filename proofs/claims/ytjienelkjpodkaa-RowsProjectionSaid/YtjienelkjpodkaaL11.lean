/- A refutation in memory. -/
import Derived.Test.YtjienelkjpodkaaW15
namespace Go.Proofs.Ytjienelkjpodkaa
open Go.RowKit

/-- the numbers of a step are numbers of the machine -/
structure StepWf (s : Step) : Prop where
  kind : I64 s.kind
  r : I64 s.r
  d : I64 s.d
  x : I64 s.x
  k : I64 s.k
  next : I64 s.next
  els : I64 s.els

/-- a slice of steps that reads as a refutation -/
structure RP (w : World) (K : Nat → Prop) (A : Option Addr) (n c : Nat) (p : List Step) : Prop where
  len : p.length = n
  cap : n ≤ c
  big : n ≤ 140737488355328
  top : c ≤ 9223372036854775807
  wf : ∀ s ∈ p, StepWf s
  ex : ∃ us, Sl w K A us ∧ AllS w K us p
theorem RP.old {w w' : World} {K : Nat → Prop} {A : Option Addr} {n c : Nat} {p : List Step} (h : RP w K A n c p) (ho : Old K w w') : RP w' K A n c p := by
  obtain ⟨us, h1, h2⟩ := h.ex
  exact ⟨h.len, h.cap, h.big, h.top, h.wf, us, h1.old ho, h2.old ho⟩
theorem RP.below {w w' : World} {K : Nat → Prop} {A : Option Addr} {n c : Nat} {p : List Step} (h : RP w K A n c p) (hb : Below w.heap.size w w') : RP w' K A n c p := h.old (Old.of_below hb)
theorem RP.weak {w : World} {K K' : Nat → Prop} {A : Option Addr} {n c : Nat} {p : List Step} (h : RP w K A n c p) (hK : ∀ k, k < w.heap.size → K k → K' k) : RP w K' A n c p := by
  obtain ⟨us, h1, h2⟩ := h.ex
  exact ⟨h.len, h.cap, h.big, h.top, h.wf, us, h1.weak hK, h2.weak hK⟩
theorem RP.nil_ (w : World) (K : Nat → Prop) : RP w K none 0 0 [] := ⟨rfl, Nat.le_refl _, by omega, by omega, fun s hs => (by cases hs), [], fun j u hu => (by simp at hu), AllS.nil_ _ _⟩
theorem R1.none_ {w : World} {K : Nat → Prop} : R1 w K none 0 0 [] := R1.nil_ _ _

theorem Sl.other {w : World} {K : Nat → Prop} {A : Option Addr} {l : List Int} {p : Addr} {u v : Value} (h : Sl w K A (l.map (Value.int .i64))) (hc : w.cell? p = some v) (hv : ∀ x, v ≠ .int .i64 x) : Sl (w.setCell p u) K A (l.map (Value.int .i64)) := fun j y hy => by
  obtain ⟨ad, h1, h2, h3⟩ := h j y hy
  refine ⟨ad, h1, h2, ?_⟩
  rw [World.cell?_setCell_other _ _ _ _ (fun e => ?_)]
  · exact h3
  · rw [← e, hc] at h3
    rw [List.getElem?_map] at hy
    cases hl : l[j]? with
    | none => rw [hl] at hy; cases hy
    | some x =>
      rw [hl] at hy
      cases hy
      cases h3
      exact hv x rfl
theorem R1.other {w : World} {K : Nat → Prop} {A : Option Addr} {n c : Nat} {l : List Int} {p : Addr} {u v : Value} (h : R1 w K A n c l) (hc : w.cell? p = some v) (hv : ∀ x, v ≠ .int .i64 x) : R1 (w.setCell p u) K A n c l :=
  ⟨h.len, h.cap, h.big, h.top, h.wf, h.sl.other hc hv⟩
theorem R1.set_far {w : World} {K : Nat → Prop} {A : Option Addr} {n c : Nat} {l : List Int} {p : Addr} {u : Value} (h : R1 w K A n c l) (hp : ∀ k, K k → k ≠ p.block) : R1 (w.setCell p u) K A n c l :=
  h.old fun k hk _ => Below.heap_setCell w p u k (hp k hk)
theorem AllS.other {w : World} {K : Nat → Prop} {us : List Value} {p : List Step} {q : Addr} {u v : Value} (h : AllS w K us p) (hc : w.cell? q = some v) (hv : ∀ x, v ≠ .int .i64 x) : AllS (w.setCell q u) K us p :=
  ⟨h.1, fun j s hs => by
    obtain ⟨A, n, c, h1, h2⟩ := h.2 j s hs
    exact ⟨A, n, c, h1, h2.other hc hv⟩⟩
theorem OwnS.rp {w : World} {K : Nat → Prop} {B : Nat} {A : Option Addr} {n c : Nat} {us : List Value} {p : List Step} (h : OwnS w B 49 8 A n c us) (hK : ∀ q, obl A = some q → K q) (hn : n ≤ 140737488355328) (ha : AllS w K us p) (hw : ∀ s ∈ p, StepWf s) : RP w K A n c p :=
  ⟨by have := h.len; have := ha.1; omega, h.cap.1, hn, h.cap.2, hw, us, h.sl hK, ha⟩
theorem RP.at_ {w : World} {K : Nat → Prop} {A : Option Addr} {n c : Nat} {p : List Step} {k : Nat} (h : RP w K A n c p) (hk : k < n) : ∃ ad s mA mn mc, A = some ad ∧ K ad.block ∧ p[k]? = some s ∧ StepWf s ∧ R1 w K mA mn mc s.m ∧
    w.cell? (ad.add (k * 8)) = some (.int .i64 s.kind) ∧ w.cell? (ad.add (k * 8 + 1)) = some (.slice mA mn mc) ∧ w.cell? (ad.add (k * 8 + 2)) = some (.int .i64 s.r) ∧ w.cell? (ad.add (k * 8 + 3)) = some (.int .i64 s.d) ∧
    w.cell? (ad.add (k * 8 + 4)) = some (.int .i64 s.x) ∧ w.cell? (ad.add (k * 8 + 5)) = some (.int .i64 s.k) ∧ w.cell? (ad.add (k * 8 + 6)) = some (.int .i64 s.next) ∧ w.cell? (ad.add (k * 8 + 7)) = some (.int .i64 s.els) := by
  obtain ⟨us, h1, h2⟩ := h.ex
  have hkp : k < p.length := by rw [h.len]; exact hk
  have hs : p[k]? = some p[k] := List.getElem?_eq_getElem hkp
  obtain ⟨mA, mn, mc, h3, h4⟩ := h2.2 k _ hs
  have hg : ∀ j, j < 8 → us[k * 8 + j]? = (stepCells (p[k]).kind (.slice mA mn mc) (p[k]).r (p[k]).d (p[k]).x (p[k]).k (p[k]).next (p[k]).els)[j]? := fun j hj => by
    rw [← h3, List.getElem?_take, if_pos hj, List.getElem?_drop]
  obtain ⟨ad, e1, e2, e3⟩ := h1 (k * 8) _ (hg 0 (by decide))
  refine ⟨ad, p[k], mA, mn, mc, e1, e2, hs, h.wf _ (List.mem_of_getElem? hs), h4, e3, ?_, ?_, ?_, ?_, ?_, ?_, ?_⟩ <;>
  first
    | (obtain ⟨ad', t1, _, t3⟩ := h1 (k * 8 + 1) _ (hg 1 (by decide)); rw [e1] at t1; cases t1; exact t3)
    | (obtain ⟨ad', t1, _, t3⟩ := h1 (k * 8 + 2) _ (hg 2 (by decide)); rw [e1] at t1; cases t1; exact t3)
    | (obtain ⟨ad', t1, _, t3⟩ := h1 (k * 8 + 3) _ (hg 3 (by decide)); rw [e1] at t1; cases t1; exact t3)
    | (obtain ⟨ad', t1, _, t3⟩ := h1 (k * 8 + 4) _ (hg 4 (by decide)); rw [e1] at t1; cases t1; exact t3)
    | (obtain ⟨ad', t1, _, t3⟩ := h1 (k * 8 + 5) _ (hg 5 (by decide)); rw [e1] at t1; cases t1; exact t3)
    | (obtain ⟨ad', t1, _, t3⟩ := h1 (k * 8 + 6) _ (hg 6 (by decide)); rw [e1] at t1; cases t1; exact t3)
    | (obtain ⟨ad', t1, _, t3⟩ := h1 (k * 8 + 7) _ (hg 7 (by decide)); rw [e1] at t1; cases t1; exact t3)

/-! ### the steps of a search are steps of numbers -/
theorem i64_small {x : Int} (h1 : -1000000000 ≤ x) (h2 : x ≤ 1000000000) : I64 x := by unfold I64; omega
theorem refuteF_wf {r : Row} {a : Int} {b : Box} {p : List Step} (h : ∀ s ∈ p, StepWf s) (hp : p.length ≤ 100000) : ∀ s ∈ refuteF r a b p, StepWf s := fun s hs => by
  unfold refuteF at hs
  rcases List.mem_append.1 hs with hs | hs
  · rcases List.mem_append.1 hs with hs | hs
    · exact h s hs
    · rw [List.mem_singleton] at hs; subst hs
      constructor <;> apply i64_small <;> simp <;> omega
  · rw [List.mem_singleton] at hs; subst hs
    constructor <;> apply i64_small <;> simp
theorem setEls_wf {p : List Step} {j : Nat} {e : Int} (h : ∀ s ∈ p, StepWf s) (hj : j < p.length) (he : I64 e) : ∀ s ∈ setEls p j e, StepWf s := fun s hs => by
  unfold setEls at hs
  rcases List.mem_or_eq_of_mem_set hs with hs | hs
  · exact h s hs
  · subst hs
    have : StepWf (p.getD j { kind := 0 }) := by
      rw [List.getD_eq_getElem?_getD, List.getElem?_eq_getElem hj]
      exact h _ (List.getElem_mem hj)
    exact ⟨this.kind, this.r, this.d, this.x, this.k, this.next, he⟩
theorem visit_wf (rows : List Row) (at' : List Int) (n : Nat) : ∀ (k : Nat) (b : Box) (p : List Step), BoxOk n b → p.length + 3 * b.vol n ≤ 90000 → (∀ s ∈ p, StepWf s) → ∀ s ∈ (visitF rows at' n k b p).2, StepWf s
  | 0, b, p, hb, hl, h => h
  | k + 1, b, p, hb, hl, h => by
    cases hf : failF rows at' b with
    | some ra =>
      rw [visitF_fail (r := ra.1) (a := ra.2) hf]
      exact refuteF_wf h (by omega)
    | none =>
      cases hfr : freeF b.lo b.hi n 0 with
      | none => rw [visitF_point hf hfr]; exact h
      | some i =>
        obtain ⟨j, hj, hjn, hne, _⟩ := free_some b.lo b.hi n 0 i (by rw [hb.wf.lo]; exact hb.n12) (by rw [hb.wf.hi]; exact hb.n12) hfr
        obtain rfl : i = j := by omega
        have hm := hb.mid hjn hne
        have hLo := hb.lowOk hjn hne
        have hHi := hb.highOk hjn hne
        have hpa := hb.parts hjn hne
        have h1 := hLo.volPos
        have h2 := hHi.volPos
        have hn12 := hb.n12
        rw [visitF_split hf hfr rfl]
        generalize hmid : (b.lo.getD i 0 + b.hi.getD i 0).tdiv 2 = mid at *
        have hp1 : ∀ s ∈ p ++ [splitS i mid p], StepWf s := fun s hs => by
          rcases List.mem_append.1 hs with hs | hs
          · exact h s hs
          · rw [List.mem_singleton] at hs; subst hs
            constructor <;> apply i64_small <;> simp [splitS] <;> omega
        have hl1 := visit_len rows at' n k (b.low i mid) (p ++ [splitS i mid p]) hLo
        have ih1 := visit_wf rows at' n k (b.low i mid) (p ++ [splitS i mid p]) hLo (by simp; omega) hp1
        rcases hV : visitF rows at' n k (b.low i mid) (p ++ [splitS i mid p]) with ⟨_ | x, p2⟩
        · rw [hV] at ih1 hl1
          simp only [List.length_append, List.length_cons, List.length_nil] at hl1
          exact visit_wf rows at' n k (b.high i mid) (setEls p2 p.length p2.length) hHi (by rw [setEls_len]; omega) (setEls_wf ih1 (by omega) (i64_small (by omega) (by omega)))
        · rw [hV] at ih1
          exact ih1
theorem startGo_wf : ∀ (rs : List Row) (k : Nat) (st : Begin), (∀ r ∈ rs, eachB r.1 (-1000) 1000 = true) → rs.length + k ≤ 1000 → st.p.length ≤ k → (∀ s ∈ st.p, StepWf s) → ∀ s ∈ (startGo rs k st).p, StepWf s
  | [], k, st, _, _, _, h => h
  | r :: rs, k, st, hr, hk, hp, h => by
    have hb := gcdF_bound (hr r List.mem_cons_self) (by omega)
    simp only [List.length_cons] at hk
    rw [startGo]
    split
    · refine startGo_wf rs (k + 1) _ (fun r' h' => hr r' (List.mem_cons_of_mem _ h')) (by omega) (by simp; omega) (fun s hs => ?_)
      rcases List.mem_append.1 hs with hs | hs
      · exact h s hs
      · rw [List.mem_singleton] at hs; subst hs
        constructor <;> apply i64_small <;> simp <;> omega
    · exact startGo_wf rs (k + 1) _ (fun r' h' => hr r' (List.mem_cons_of_mem _ h')) (by omega) (Nat.le_succ_of_le hp) h
theorem search_wf {s : Sys} (hs : SysOk s) (hp : prodF s.1 ≤ 16384) : ∀ x ∈ (searchF s).2, StepWf x := by
  have hn := start_nums hs
  refine visit_wf _ _ _ _ _ _ (boxF_ok hs) ?_ (startGo_wf s.2 0 _ (fun r hr => (hs.rows r hr).2.1) (by have := hs.m24; omega) (Nat.le_refl _) (fun s hs => by cases hs))
  rw [boxF_vol hs]; omega
theorem search_len {s : Sys} (hs : SysOk s) (hp : prodF s.1 ≤ 16384) : (searchF s).2.length ≤ 49200 := by
  have hn := start_nums hs
  have := visit_len (startF s).rows (startF s).at' s.1.length (fuelF s) (boxF s (startF s).n) (startF s).p (boxF_ok hs)
  rw [boxF_vol hs] at this
  unfold searchF
  omega
end Go.Proofs.Ytjienelkjpodkaa
