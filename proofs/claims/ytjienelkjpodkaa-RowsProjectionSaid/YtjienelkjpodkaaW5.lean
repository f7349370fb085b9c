/- Walks: Unit, the clones, Clip. -/
import Derived.Test.YtjienelkjpodkaaW4
import Derived.Test.YtjienelkjpodkaaL2
namespace Go.Proofs.Ytjienelkjpodkaa
open Go.RowKit

/-- the reference's 'Unit'. -/
theorem runit_c (n i : Nat) (a c : Int) (w : World) (hn : n ≤ 12) (hi : i < n) (ha : I64 a) (hc : I64 c) :
    Calls Try.prog 19 #[.int .i64 n, .int .i64 i, .int .i64 a, .int .i64 c] w (RowPost w (unitR n i a c)) := by
  have HU := Lib.hid (unit_row n i a)
  go_enter Try.func19, Try.ntmps19
  go_wp2_with (first | (refine wpList_makeFull rfl (.tmp 10) (.tmp 10) 22 rfl (.int .i64 0) Try.underlying22 info3 rfl n rfl rfl (by omega) (by omega) ?_; intro w5 hk hb hs; have HK5 := Lib.hid (show Blk w5 (w.heap.size + 1) 3 (List.replicate n (Value.int .i64 0)).toArray by simpa using hk); have HR5 := Lib.hid ((Blk.new w 37 #[.slice none 0 0, .int .i64 0]).old hb); have HB5 := Lib.hid (show Below w.heap.size w w5 from ((Below.refl w.heap.size w).alloc (Nat.le_refl _) _).trans (hb.mono (by simp))); have HS5 := Lib.hid (show w5.heap.size = w.heap.size + 2 by simpa using hs); clear hk hb hs) | (refine wpList_store_at rfl 3 (.tmp 18) (.tmp 17) rfl rfl (w.heap.size + 1) i (.int .i64 a) _ 3 rfl rfl (HK5.out.alloc _) (by simpa using hi) (by kernel_rfl) rfl ?_; intro w6 hb6 ho6; have HK6 := Lib.hid hb6; have HB6 := Lib.hid (below_only (HB5.out.alloc HB5.out.size (.cells #[.slice (some ⟨w.heap.size + 1, 0, none⟩) n n, .int .i64 c] 37)) ho6 (Nat.le_succ _)); have hk7 := (Blk.new w5 37 #[.slice (some ⟨w.heap.size + 1, 0, none⟩) n n, .int .i64 c]).only ho6 (by have := HS5.out; omega); have hc0 := hk7.cell 0; have hc1 := hk7.cell 1; have HR6 := Lib.hid ((HR5.out.alloc (.cells #[.slice (some ⟨w.heap.size + 1, 0, none⟩) n n, .int .i64 c] 37)).only ho6 (by omega)); clear hb6 ho6 hk7) | (refine wpList_store_blk rfl 37 (.tmp 8) (.tmp 19) rfl rfl w.heap.size #[.slice (some ⟨w.heap.size + 1, 0, none⟩) n n, .int .i64 c] _ 37 rfl rfl HR6.out size37 rfl (by simp [Value.oneCell']) ?_; intro w7 hk ho; have HK7 := Lib.hid (HK6.out.only ho (by omega)); have HB7 := Lib.hid (below_only HB6.out ho (Nat.le_refl _)); have HR7 := Lib.hid hk; have hd0 := hk.cell 0; have hd1 := hk.cell 1; clear hk ho))
  refine bodyPost_ret (results_cell rfl _ _ w.heap.size rfl 37 _ HR7.out Try.underlying37 rfl size37) rfl ?_
  have hk := HK7.out
  rw [HU.out] at hk
  exact ⟨_, _, rfl, ⟨_, _, _, rfl, rfl, hk.r1 (Nat.le_succ _) (by simp) (by omega) (set_i64 (rep_i64 n) ha), hc⟩, HB7.out⟩

def GivesOwn1 (w : World) (l : List Int) (e : Ending) (w' : World) : Prop :=
  ∃ A n c, e = .returned (.slice A n c) ∧ Own w' w.heap.size 3 A n c (l.map (Value.int .i64)) ∧ Below w.heap.size w w'

/-- 'slices.Clone' at []int. -/
theorem clone1_c (K : Nat → Prop) (A : Option Addr) (n c : Nat) (l : List Int) (w : World) (h : R1 w K A n c l) (hn : n ≤ 1000000) :
    Calls Try.prog 31 #[.slice A n c] w (GivesOwn1 w l) := by
  have h1 := h.sl
  have hlen := h.len
  have heq := fun W => Lib.run_eql_slice_nil (P := Try.prog) W 22 3 A n c 0 0 Try.underlying22
  cases A with
  | none =>
    have hl : l = [] := by
      cases l with
      | nil => rfl
      | cons x l => obtain ⟨ad, e, _⟩ := h1 0 (.int .i64 x) rfl; cases e
    subst hl
    clear h h1 hlen
    go_enter Try.func31, Try.ntmps31
    go_wp2
    go_ret
    exact ⟨none, 0, 0, rfl, Own.nil_ _ _ _, Below.refl _ _⟩
  | some ad =>
    have H1 := Lib.hid h1
    have HL := Lib.hid (show (l.map (Value.int .i64)).length = n by simpa using hlen)
    have HC := Lib.hid (show ∀ (j : Nat) (u : Value), (l.map (Value.int .i64))[j]? = some u → (w.alloc (.cells #[] 3)).cell? (ad.add j) = some u from fun j u hu => by
      obtain ⟨ad', e, _, hc⟩ := h1 j u hu
      cases e
      rw [World.cell?_alloc_lt _ _ _ (lt_of_cell hc)]
      exact hc)
    clear h h1 hlen
    go_enter Try.func31, Try.ntmps31
    go_wp2_with (at_builtin; refine wpList_appendAll rfl (.tmp 5) (.tmp 6) 22 rfl app22 w.heap.size (some ⟨w.heap.size, 0, none⟩) 0 0 [] rfl (Own.lit 3 #[] 0 (Nat.le_refl _) (by omega) rfl) ad n c (l.map (Value.int .i64)) rfl HL.out HC.out (ints_one l) (by omega) (by omega) (by simp) ?_; intro A1 c1 w1 hown hgr hob; have HO := Lib.hid hown; have HG := Lib.hid hgr; clear hown hgr hob)
    go_ret
    have hb : Below w.heap.size w w1 := ((Below.refl _ _).alloc (Nat.le_refl _) _).grown HG.out (by simp) (fun k hk => by cases hk; exact Nat.le_refl _)
    exact ⟨A1, n, c1, rfl, by simpa using HO.out, hb⟩

def GivesOwnR (w : World) (K : Nat → Prop) (rs : List Row) (e : Ending) (w' : World) : Prop :=
  ∃ A n c us, e = .returned (.slice A n c) ∧ OwnS w' w.heap.size 37 2 A n c us ∧ AllR w' K us rs ∧ Below w.heap.size w w'

/-- 'slices.Clone' at []api.Row. -/
theorem cloneR_c (K : Nat → Prop) (A : Option Addr) (n c : Nat) (rs : List Row) (w : World) (h : RR w K A n c rs) (hn : n ≤ 1000000) :
    Calls Try.prog 28 #[.slice A n c] w (GivesOwnR w K rs) := by
  obtain ⟨us, h1, h2⟩ := h.ex
  have hlen := h.len
  have heq := fun W => Lib.run_eql_slice_nil (P := Try.prog) W 23 37 A n c 0 0 Try.underlying23
  have hb0 : Below w.heap.size w (w.alloc (.cells #[] 37)) := (Below.refl _ _).alloc (Nat.le_refl _) _
  cases A with
  | none =>
    have hus : us = [] := by
      cases us with
      | nil => rfl
      | cons u us => obtain ⟨ad, e, _⟩ := h1 0 u rfl; cases e
    subst hus
    have hls : rs = [] := by
      have := h2.1
      simp only [List.length_nil] at this
      exact List.eq_nil_of_length_eq_zero (by omega)
    subst hls
    clear h h1 h2 hlen
    go_enter Try.func28, Try.ntmps28
    go_wp2
    go_ret
    exact ⟨none, 0, 0, [], rfl, OwnS.nil_ _ _ _ _, AllR.nil_ _ _, Below.refl _ _⟩
  | some ad =>
    have H1 := Lib.hid (h1.old (Old.of_below hb0))
    have H2 := Lib.hid h2
    have HL := Lib.hid (show us.length = n * 2 by rw [h2.1, hlen])
    clear h h1 h2 hlen hb0
    go_enter Try.func28, Try.ntmps28
    go_wp2_with (at_builtin; refine wpList_appendSS rfl (.tmp 5) (.tmp 6) 23 rfl app23 w.heap.size (some ⟨w.heap.size, 0, none⟩) 0 0 [] rfl (OwnS.lit 37 2 0 #[] (Nat.le_refl _) (by omega) rfl) (some ad) n c us rfl HL.out H1.out H2.out.one (by omega) (by omega) (by simp) ?_; intro A1 c1 w1 hown hgr hob; have HO := Lib.hid hown; have HG := Lib.hid hgr; clear hown hgr hob)
    go_ret
    have hb : Below w.heap.size w w1 := ((Below.refl _ _).alloc (Nat.le_refl _) _).grown HG.out (by simp) (fun k hk => by cases hk; exact Nat.le_refl _)
    exact ⟨A1, n, c1, us, rfl, by simpa using HO.out, H2.out.old (Old.of_below hb), hb⟩

/-- 'slices.Clip' at []api.Row. -/
theorem clip_c (A : Option Addr) (n c : Nat) (w : World) (h : n ≤ c) (_hc : c ≤ 9223372036854775807) :
    Calls Try.prog 42 #[.slice A n c] w fun e w' => e = .returned (.slice A n n) ∧ w = w' := by
  go_enter Try.func42, Try.ntmps42
  go_wp2
  go_ret
  exact ⟨rfl, rfl⟩

end Go.Proofs.Ytjienelkjpodkaa
