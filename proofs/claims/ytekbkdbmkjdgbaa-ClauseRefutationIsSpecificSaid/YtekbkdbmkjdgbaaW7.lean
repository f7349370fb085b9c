/- Walks: slices.Clone, learn. -/
import Derived.Test.YtekbkdbmkjdgbaaL1
import Derived.Test.YtekbkdbmkjdgbaaW3
import Derived.Test.YtekbkdbmkjdgbaaW4
namespace Go.Proofs.Ytekbkdbmkjdgbaa
open Go.RowKit

def GivesOwn2 (w : World) (K : Nat → Prop) (ls : List (List Int)) (e : Ending) (w' : World) : Prop :=
  ∃ A n c us, e = .returned (.slice A n c) ∧ Own w' w.heap.size 32 A n c us ∧ All1 w' K us ls ∧ Below w.heap.size w w'
def GivesOwn1 (w : World) (l : List Int) (e : Ending) (w' : World) : Prop :=
  ∃ A n c, e = .returned (.slice A n c) ∧ Own w' w.heap.size 3 A n c (l.map (Value.int .i64)) ∧ Below w.heap.size w w'

/-- 'slices.Clone' at [][]int. -/
theorem clone2_c (K : Nat → Prop) (A : Option Addr) (n c : Nat) (ls : List (List Int)) (w : World) (h : R2 w K A n c ls) (hn : n ≤ 1000000) :
    Calls Try.prog 37 #[.slice A n c] w (GivesOwn2 w K ls) := by
  obtain ⟨us, h1, h2⟩ := h.ex
  have hlen := h.len
  have heq := fun W => Lib.run_eql_slice_nil (P := Try.prog) W 22 32 A n c 0 0 Try.underlying22
  cases A with
  | none =>
    have hus : us = [] := by
      cases us with
      | nil => rfl
      | cons u us => obtain ⟨ad, e, _⟩ := h1 0 u rfl; cases e
    subst hus
    have hls : ls = [] := by
      have := h2.1; simp at this; exact List.eq_nil_of_length_eq_zero this.symm
    subst hls
    clear h h1 h2 hlen
    go_enter Try.func37, Try.ntmps37
    go_wp2
    go_ret
    exact ⟨none, 0, 0, [], rfl, Own.nil_ _ _ _, All1.nil_ _ _, Below.refl _ _⟩
  | some ad =>
    have H1 := Lib.hid h1
    have H2 := Lib.hid h2
    have HL := Lib.hid (show us.length = n by rw [h2.1]; exact hlen)
    have HC := Lib.hid (show ∀ (j : Nat) (u : Value), us[j]? = some u → (w.alloc (.cells #[] 32)).cell? (ad.add j) = some u from fun j u hu => by
      obtain ⟨ad', e, _, hc⟩ := h1 j u hu
      cases e
      rw [World.cell?_alloc_lt _ _ _ (lt_of_cell hc)]
      exact hc)
    clear h h1 h2 hlen
    go_enter Try.func37, Try.ntmps37
    go_wp2_with (at_builtin; refine wpList_appendAll rfl (.tmp 5) (.tmp 6) 22 rfl app22 w.heap.size (some ⟨w.heap.size, 0, none⟩) 0 0 [] rfl (Own.lit 32 #[] 0 (Nat.le_refl _) (by omega) rfl) ad n c us rfl HL.out HC.out H2.out.one (by omega) (by omega) (by simp) ?_; intro A1 c1 w1 hown hgr hob; have HO := Lib.hid hown; have HG := Lib.hid hgr; clear hown hgr hob)
    go_ret
    have hb : Below w.heap.size w w1 := ((Below.refl _ _).alloc (Nat.le_refl _) _).grown HG.out (by simp) (fun k hk => by cases hk; exact Nat.le_refl _)
    exact ⟨A1, n, c1, us, rfl, by simpa using HO.out, H2.out.old (Old.of_below hb), hb⟩

/-- 'slices.Clone' at []int. -/
theorem clone1_c (K : Nat → Prop) (A : Option Addr) (n c : Nat) (l : List Int) (w : World) (h : R1 w K A n c l) (hn : n ≤ 1000000) :
    Calls Try.prog 54 #[.slice A n c] w (GivesOwn1 w l) := by
  have h1 := h.sl
  have hlen := h.len
  have heq := fun W => Lib.run_eql_slice_nil (P := Try.prog) W 32 3 A n c 0 0 Try.underlying32
  cases A with
  | none =>
    have hl : l = [] := by
      cases l with
      | nil => rfl
      | cons x l => obtain ⟨ad, e, _⟩ := h1 0 (.int .i64 x) rfl; cases e
    subst hl
    clear h h1 hlen
    go_enter Try.func54, Try.ntmps54
    go_wp2
    go_ret
    exact ⟨none, 0, 0, rfl, Own.nil_ _ _ _, Below.refl _ _⟩
  | some ad =>
    have H1 := Lib.hid h1
    have HL := Lib.hid (show (l.map (Value.int .i64)).length = n by simpa using hlen)
    have HC := Lib.hid (show ∀ (j : Nat) (u : Value), (l.map (Value.int .i64))[j]? = some u → (w.alloc (.cells #[] 3)).cell? (ad.add j) = some u from fun j u hu => by
      obtain ⟨ad', e, _, hc⟩ := h1 j u hu
      cases e
      rw [World.cell?_alloc_lt _ _ _ (lt_of_cell hc)]
      exact hc)
    clear h h1 hlen
    go_enter Try.func54, Try.ntmps54
    go_wp2_with (at_builtin; refine wpList_appendAll rfl (.tmp 5) (.tmp 6) 32 rfl app32 w.heap.size (some ⟨w.heap.size, 0, none⟩) 0 0 [] rfl (Own.lit 3 #[] 0 (Nat.le_refl _) (by omega) rfl) ad n c (l.map (Value.int .i64)) rfl HL.out HC.out (ints_one l) (by omega) (by omega) (by simp) ?_; intro A1 c1 w1 hown hgr hob; have HO := Lib.hid hown; have HG := Lib.hid hgr; clear hown hgr hob)
    go_ret
    have hb : Below w.heap.size w w1 := ((Below.refl _ _).alloc (Nat.le_refl _) _).grown HG.out (by simp) (fun k hk => by cases hk; exact Nat.le_refl _)
    exact ⟨A1, n, c1, rfl, by simpa using HO.out, hb⟩

end Go.Proofs.Ytekbkdbmkjdgbaa
