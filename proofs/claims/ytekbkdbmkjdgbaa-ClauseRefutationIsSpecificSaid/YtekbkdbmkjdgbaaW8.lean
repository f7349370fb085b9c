/- Walks: learn. -/
import Derived.Test.YtekbkdbmkjdgbaaL2
import Derived.Test.YtekbkdbmkjdgbaaW3
namespace Go.Proofs.Ytekbkdbmkjdgbaa
open Go.RowKit

theorem own_way {wr w2 w3 : World} {B g n c : Nat} {e t : TypeId} {A fA : Option Addr} {xs : List Value} {O : Obj} {cs : Array Value} (h : Own wr B e A n c xs) (hg : Blk wr g t cs) (hne : e ≠ t) (hf : ∀ k, obl fA = some k → obl A ≠ some k)
    (g2 : (wr.alloc O).grownBy w2 (obl fA)) (y3 : Only g w2 w3) : Own w3 B e A n c xs := h.keep fun k hk => by
  have hlt := (h.lt k hk).2
  have hkg : k ≠ g := fun e' => own_ne_blk h hg hne (by rw [hk, e'])
  rw [y3.block k hkg, g2.block k (by simp; omega) (fun e' => hf k e'.symm hk), Below.heap_alloc _ _ _ hlt]

def LearnPost (B g n : Nat) (f L : List (List Int)) (fA lA : Option Addr) (fn ln : Nat) (c : List Int) (w : World) (e : Ending) (w' : World) : Prop :=
  e = .returned (.tuple #[]) ∧ ∃ fA2 fc2 lA2 lc2, Srch w' B g n f (L ++ [c]) fA2 (fn + 1) fc2 lA2 (ln + 1) lc2 ∧ Chg g fA lA w w' ∧ NewOr w fA fA2 ∧ NewOr w lA lA2

structure NegRel (w wr : World) (d : List Int) (k : Nat) (A : Option Addr) (c : Nat) : Prop where
  below : Below w.heap.size w wr
  own : Own wr w.heap.size 3 A k c ((negs (d.take k)).map (Value.int .i64))

theorem negs_snoc {d : List Int} {k : Nat} {x : Int} (h : d[k]? = some x) : (negs (d.take (k + 1))).map (Value.int .i64) = (negs (d.take k)).map (Value.int .i64) ++ [.int .i64 (-x)] := by
  rw [take_snoc_of h, negs, negs, List.map_append, List.map_append]; rfl

set_option maxHeartbeats 400000 in
/-- 'learn'. -/
theorem learn_c (K : Nat → Prop) (B g n : Nat) (f L : List (List Int)) (fA lA dA : Option Addr) (fn fc ln lc dn dc : Nat) (d : List Int) (w : World) (hB : B ≤ w.heap.size) (hS : Srch w B g n f L fA fn fc lA ln lc) (hd : R1 w K dA dn dc d) (hv : d.all (wi 16) = true)
    (hfn : fn ≤ 1000000) (hln : ln ≤ 1000000) (hdn : dn ≤ 1000000) :
    Calls Try.prog 57 #[.pointer (some ⟨g, 0, none⟩), .slice dA dn dc] w (LearnPost B g n f L fA lA fn ln (negs d) w) := by
  obtain ⟨us, fo1, fo2⟩ := hS.fo
  obtain ⟨lus, lo1, lo2⟩ := hS.lo
  have HS := Lib.hid hS
  have Hfo := Lib.hid (And.intro fo1 fo2)
  have Hlo := Lib.hid (And.intro lo1 lo2)
  have HV := Lib.hid hv
  have HB := Lib.hid hB
  clear hS fo1 fo2 lo1 lo2 hv hB
  go_enter Try.func57, Try.ntmps57
  go_wp2_with (refine wpList_makeCap rfl (.const (.int .i64 0)) (.tmp 8) 32 rfl app32 w.heap.size dn rfl rfl (by omega) (by omega) (Nat.le_refl _) ?_; intro w1 hown hgr; have HN := Lib.hid (show NegRel w w1 d 0 (some ⟨w.heap.size, 0, none⟩) dn from ⟨(Below.refl _ _).grown hgr (Nat.le_refl _) (fun k hk => by cases hk), hown⟩); clear hown hgr)
  generalize (some (⟨w.heap.size, 0, none⟩ : Addr)) = C0 at *
  go_loopw [4, 12] (fun s4 s12 wr => ∃ (k : Nat) (A0 : Option Addr) (c0 : Nat), k ≤ dn ∧ s12 = .int .i64 k ∧ s4 = .slice A0 k c0 ∧ NegRel w wr d k A0 c0) (fun _ i _ => dn - (intOf i).toNat)
  case atStart => exact ⟨0, C0, dn, by omega, rfl, rfl, HN.out⟩
  case round =>
    clear HN
    obtain ⟨k, A0, c0, hk, rfl, rfl, hq⟩ := hrel
    have HQ := Lib.hid hq
    clear hq
    by_cases hlt : k < dn
    · obtain ⟨ad, x, rfl, _, hx, hw, hcell⟩ := (hd.below HQ.out.below).at_ hlt
      obtain ⟨v0, v1, v2⟩ := wi_facts (all_mem HV.out hx)
      have HX := Lib.hid hx
      clear hx hd hw
      go_wp2_with (at_builtin; refine wpList_push rfl (.tmp 16) (.tmp 19) 32 rfl app32 w.heap.size A0 k c0 ((negs (d.take k)).map (Value.int .i64)) rfl (HQ.out.own.alloc _) wr.heap.size (.int .i64 (-x)) rfl ((Blk.new wr 3 _).cell 0) rfl (by omega) (by omega) (by have := HQ.out.below.size; simp; omega) ?_; intro A1 c1 w7 hown hgr hob; have HO := Lib.hid hown; have HG := Lib.hid hgr; clear hown hgr hob)
      go_roundw
      case rel =>
        refine ⟨k + 1, A1, c1, by omega, by go_num, rfl, ?_, by rw [negs_snoc HX.out]; exact HO.out⟩
        exact (HQ.out.below.alloc HQ.out.below.size _).grown HG.out (by have := HQ.out.below.size; simp; omega) (fun g hg => (HQ.out.own.lt g hg).1)
      case measure => simp [intOf]; omega
    · obtain rfl : k = dn := by omega
      have hw1 := HQ.out.below
      have HS1 := Lib.hid (HS.out.below hw1)
      have hk1 := HS1.out.blk.cell 1
      have hC : In1 wr (fun q => w.heap.size ≤ q) (.slice A0 k c0) (negs d) := by
        have ho := HQ.out.own
        rw [List.take_of_length_le (by have := hd.len; omega)] at ho
        refine ⟨A0, k, c0, rfl, ho.r1 (fun q hq => (ho.lt q hq).1) (by omega) fun y hy => ?_⟩
        obtain ⟨x, hx, rfl⟩ := List.mem_map.1 hy
        obtain ⟨v0, v1, v2⟩ := wi_facts (List.all_eq_true.1 HV.out x hx)
        unfold I64; omega
      have HC := Lib.hid hC
      have hc1 : wr.cell? ⟨g, 1, none⟩ = some (.slice fA fn fc) := hk1
      clear hk1 hw1 hC hd
      go_wp2_with (first | (at_builtin; refine wpList_push rfl (.tmp 26) (.tmp 28) 22 rfl app22 B fA fn fc us rfl ((Hfo.out.1.below HQ.out.below).alloc _) wr.heap.size (.slice A0 k c0) rfl ((Blk.new wr 32 _).cell 0) rfl (by omega) (by omega) (by have := HQ.out.below.size; have := HB.out; simp; omega) ?_; intro fA2 fc2 w2 hown hgr hob; have HO := Lib.hid hown; have HG := Lib.hid hgr; have HN := Lib.hid hob; have HK := Lib.hid ((HS1.out.blk.alloc (.cells #[.slice A0 k c0] 32)).grown hgr (own_ne_blk Hfo.out.1 HS.out.blk (by decide))); clear hown hgr hob) | (refine wpList_store_at rfl 22 (.tmp 31) (.tmp 29) rfl rfl g 1 (.slice fA2 (fn + 1) fc2) _ 53 rfl rfl HK.out (by simp) (by kernel_rfl) rfl ?_; intro w3 hb3 ho3; have HK3 := Lib.hid (show Blk w3 g 53 #[.int .i64 n, .slice fA2 (fn + 1) fc2, .slice lA ln lc] from hb3); have HO3 := Lib.hid ho3; have hc2 : w3.cell? ⟨g, 2, none⟩ = some (.slice lA ln lc) := hb3.cell 2; have HL3 := Lib.hid (own_way (Hlo.out.1.below HQ.out.below) HS1.out.blk (by decide) HS.out.ne HG.out ho3); clear hb3 ho3) | (at_builtin; refine wpList_push rfl (.tmp 36) (.tmp 38) 22 rfl app22 B lA ln lc lus rfl (HL3.out.alloc _) w3.heap.size (.slice A0 k c0) rfl ((Blk.new w3 32 _).cell 0) rfl (by omega) (by omega) (by have := HK3.out.lt; have := HS.out.base; simp; omega) ?_; intro lA2 lc2 w5 hown hgr hob; have HO5 := Lib.hid hown; have HG5 := Lib.hid hgr; have HN5 := Lib.hid hob; have HK5 := Lib.hid ((HK3.out.alloc (.cells #[.slice A0 k c0] 32)).grown hgr (own_ne_blk Hlo.out.1 HS.out.blk (by decide))); clear hown hgr hob) | (refine wpList_store_at rfl 22 (.tmp 41) (.tmp 39) rfl rfl g 2 (.slice lA2 (ln + 1) lc2) _ 53 rfl rfl HK5.out (by simp) (by kernel_rfl) rfl ?_; intro w6 hb6 ho6; have HK6 := Lib.hid (show Blk w6 g 53 #[.int .i64 n, .slice fA2 (fn + 1) fc2, .slice lA2 (ln + 1) lc2] from hb6); have HO6 := Lib.hid ho6; clear hb6 ho6))
      go_end0
      obtain ⟨r1, r2, r3, r4⟩ := learn_done HS.out.blk HS.out.base Hfo.out.1 Hfo.out.2 Hlo.out.1 Hlo.out.2 HS.out.ne HQ.out.below HC.out HG.out HO.out HN.out HO3.out HG5.out HO5.out HN5.out HK6.out HO6.out
      exact ⟨rfl, fA2, fc2, lA2, lc2, r1, r2, r3, r4⟩

end Go.Proofs.Ytekbkdbmkjdgbaa
