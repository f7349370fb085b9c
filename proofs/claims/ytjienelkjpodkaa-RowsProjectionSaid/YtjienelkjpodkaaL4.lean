/- The search of rows in memory: what it owns, what a call of it may turn. -/
import Derived.Test.YtjienelkjpodkaaW9
namespace Go.Proofs.Ytjienelkjpodkaa
open Go.RowKit

/-- a block that the search does not write -/
def NK (g : Nat) (A : Option Addr) (k : Nat) : Prop := k ≠ g ∧ obl A ≠ some k

/-- what does not turn in a search -/
structure Fix where
  TA : Option Addr
  tn : Nat
  tc : Nat
  t2 : Value
  rA : Option Addr
  rn : Nat
  rc : Nat
  aA : Option Addr
  an : Nat
  ac : Nat
  top : List Int
  rows : List Row
  at' : List Int

/-- the cells of steps, one behind the other -/
def AllS (w : World) (K : Nat → Prop) (us : List Value) (p : List Step) : Prop :=
  us.length = p.length * 8 ∧ ∀ (j : Nat) (s : Step), p[j]? = some s → ∃ A n c, (us.drop (j * 8)).take 8 = stepCells s.kind (.slice A n c) s.r s.d s.x s.k s.next s.els ∧ R1 w K A n c s.m

structure Srch (w : World) (B g : Nat) (F : Fix) (pA : Option Addr) (pn pc : Nat) (p : List Step) : Prop where
  blk : Blk w g 63 #[.slice F.TA F.tn F.tc, F.t2, .slice F.rA F.rn F.rc, .slice F.aA F.an F.ac, .slice pA pn pc]
  base : B ≤ g
  top : R1 w (NK g pA) F.TA F.tn F.tc F.top
  rows : RR w (NK g pA) F.rA F.rn F.rc F.rows
  at' : R1 w (NK g pA) F.aA F.an F.ac F.at'
  po : ∃ us, OwnS w B 49 8 pA pn pc us ∧ AllS w (NK g pA) us p

theorem AllS.old {w w' : World} {K : Nat → Prop} {us : List Value} {p : List Step} (h : AllS w K us p) (ho : Old K w w') : AllS w' K us p := ⟨h.1, fun j s hs => by
  obtain ⟨A, n, c, h1, h2⟩ := h.2 j s hs
  exact ⟨A, n, c, h1, h2.old ho⟩⟩
theorem AllS.weak {w : World} {K K' : Nat → Prop} {us : List Value} {p : List Step} (h : AllS w K us p) (hK : ∀ k, k < w.heap.size → K k → K' k) : AllS w K' us p := ⟨h.1, fun j s hs => by
  obtain ⟨A, n, c, h1, h2⟩ := h.2 j s hs
  exact ⟨A, n, c, h1, h2.weak hK⟩⟩
theorem AllS.nil_ (w : World) (K : Nat → Prop) : AllS w K [] [] := ⟨rfl, fun j s hs => by simp at hs⟩
theorem stepCells_len (kd : Int) (m : Value) (r d x k nx el : Int) : (stepCells kd m r d x k nx el).length = 8 := rfl
theorem AllS.snoc {w : World} {K : Nat → Prop} {us : List Value} {p : List Step} {s : Step} {A : Option Addr} {n c : Nat} (h : AllS w K us p) (hr : R1 w K A n c s.m) : AllS w K (us ++ stepCells s.kind (.slice A n c) s.r s.d s.x s.k s.next s.els) (p ++ [s]) := by
  have hl := h.1
  refine ⟨by rw [List.length_append, List.length_append, hl, stepCells_len, List.length_singleton]; omega, fun j q hq => ?_⟩
  by_cases hj : j < p.length
  · rw [List.getElem?_append_left hj] at hq
    obtain ⟨A', n', c', h1, h2⟩ := h.2 j q hq
    refine ⟨A', n', c', ?_, h2⟩
    rw [List.drop_append_of_le_length (by omega), List.take_append_of_le_length (by rw [List.length_drop]; omega)]
    exact h1
  · rw [List.getElem?_append_right (by omega)] at hq
    have h0 : j - p.length = 0 := by
      have := (List.getElem?_eq_some_iff.1 hq).1
      simp at this; omega
    rw [h0] at hq
    simp at hq
    subst hq
    refine ⟨A, n, c, ?_, hr⟩
    have hj' : j * 8 = us.length := by rw [hl]; congr 1; omega
    rw [hj', List.drop_left, List.take_of_length_le (by rw [stepCells_len]; exact Nat.le_refl _)]
theorem Srch.len {w : World} {B g : Nat} {F : Fix} {pA : Option Addr} {pn pc : Nat} {p : List Step} (h : Srch w B g F pA pn pc p) : p.length = pn := by
  obtain ⟨us, h1, h2⟩ := h.po
  have := h1.len
  have := h2.1
  omega
theorem Srch.below {w w' : World} {B g : Nat} {F : Fix} {pA : Option Addr} {pn pc : Nat} {p : List Step} (h : Srch w B g F pA pn pc p) (hb : Below w.heap.size w w') : Srch w' B g F pA pn pc p := by
  obtain ⟨us, h1, h2⟩ := h.po
  exact ⟨h.blk.old hb, h.base, h.top.below hb, h.rows.below hb, h.at'.below hb, us, h1.below hb, h2.old (Old.of_below hb)⟩
theorem NK.new {g : Nat} {A A' : Option Addr} {w : World} (hn : NewOr w A A') {k : Nat} (hk : k < w.heap.size) (h : NK g A k) : NK g A' k :=
  ⟨h.1, fun e => by
    rcases hn k e with e | e
    · exact h.2 e
    · omega⟩
theorem Chg.keep {g : Nat} {A A' : Option Addr} {w w' : World} (h : Chg g A w w') (_hn : NewOr w A A') : Old (fun k => NK g A k ∧ NK g A' k) w w' := fun k hk hlt => h.old k hk.1.1 hk.1.2 hlt
theorem Chg.refl (g : Nat) (A : Option Addr) (w : World) : Chg g A w w := ⟨rfl, rfl, rfl, Nat.le_refl _, fun _ _ _ _ => rfl⟩
theorem Chg.of_below {g : Nat} {A : Option Addr} {w w' : World} (h : Below w.heap.size w w') : Chg g A w w' := ⟨h.os, h.tape, h.output, h.size, fun k _ _ hk => h.block k hk⟩
theorem NewOr.refl (w : World) (A : Option Addr) : NewOr w A A := fun _ h => .inl h
theorem NewOr.trans {w w' : World} {A A' A'' : Option Addr} (h : NewOr w A A') (h' : NewOr w' A' A'') (hs : w.heap.size ≤ w'.heap.size) : NewOr w A A'' := fun k hk => by
  rcases h' k hk with e | e
  · exact h k e
  · exact .inr (by omega)
theorem Chg.trans {g : Nat} {A A' : Option Addr} {w w' w'' : World} (h : Chg g A w w') (h' : Chg g A' w' w'') (hn : NewOr w A A') : Chg g A w w'' :=
  ⟨h'.os.trans h.os, h'.tape.trans h.tape, h'.output.trans h.output, Nat.le_trans h.size h'.size, fun k hk hA hlt => by
    have h1 := NK.new (g := g) hn hlt ⟨hk, hA⟩
    rw [h'.old k h1.1 h1.2 (Nat.lt_of_lt_of_le hlt h.size)]
    exact h.old k hk hA hlt⟩

/-- a call that has written the block and appended one step -/
theorem Srch.grow {w w' : World} {B g : Nat} {F : Fix} {pA pA' : Option Addr} {pn pc pc' : Nat} {p : List Step} {us' : List Value} {s : Step} {us : List Value} {mA : Option Addr} {mn mc : Nat} (h : Srch w B g F pA pn pc p) (hA : AllS w (NK g pA) us p)
    (hk : Blk w' g 63 #[.slice F.TA F.tn F.tc, F.t2, .slice F.rA F.rn F.rc, .slice F.aA F.an F.ac, .slice pA' (pn + 1) pc']) (ho : OwnS w' B 49 8 pA' (pn + 1) pc' us') (hc : Chg g pA w w') (hn : NewOr w pA pA')
    (he : us' = us ++ stepCells s.kind (.slice mA mn mc) s.r s.d s.x s.k s.next s.els) (hm : R1 w (NK g pA) mA mn mc s.m) : Srch w' B g F pA' (pn + 1) pc' (p ++ [s]) := by
  have tw : ∀ k, k < w.heap.size → NK g pA k → NK g pA k ∧ NK g pA' k := fun k hk h => ⟨h, NK.new hn hk h⟩
  have keep := hc.keep hn
  have un : ∀ k, k < w'.heap.size → NK g pA k ∧ NK g pA' k → NK g pA' k := fun k _ h => h.2
  refine ⟨hk, h.base, ((h.top.weak tw).old keep).weak un, ((h.rows.weak tw).old keep).weak un, ((h.at'.weak tw).old keep).weak un, us', ho, ?_⟩
  rw [he]
  exact ((hA.snoc hm).weak tw |>.old keep).weak un

theorem Only.trans {g : Nat} {w w' w'' : World} (h : Only g w w') (h' : Only g w' w'') : Only g w w'' :=
  ⟨h'.os.trans h.os, h'.tape.trans h.tape, h'.output.trans h.output, h'.size.trans h.size, fun k hk => (h'.block k hk).trans (h.block k hk)⟩
theorem Only.refl (g : Nat) (w : World) : Only g w w := ⟨rfl, rfl, rfl, rfl, fun _ _ => rfl⟩

end Go.Proofs.Ytjienelkjpodkaa
