/- class.add, class.Of, class.Range. -/
import Derived.Test.YtjgkdfghjeodeaaGreatDoorT10
import Derived.Test.YtjgkdfghjeodeaaGreatDoorT11
import Derived.Test.YtjgkdfghjeodeaaGreatDoorT12
import Derived.Test.YtjgkdfghjeodeaaGreatDoorT13
namespace Go.Proofs.YtjgkdfghjeodeaaGreatDoor
open Go.RowKit

theorem wd_pow (x i : Nat) (_hx : x < 256) (_hi : i < 4) : wd (2 ^ x) i = if i = x / 64 then 2 ^ (x % 64) else 0 := by
  refine Nat.eq_of_testBit_eq fun j => ?_
  rw [wd_bit, Nat.testBit_two_pow]
  by_cases h : i = x / 64
  · rw [if_pos h, Nat.testBit_two_pow]
    by_cases hj : j < 64
    · have : (x = 64 * i + j) = (x % 64 = j) := by apply propext; constructor <;> intro e <;> omega
      simp [hj, this]
    · have : ¬ x % 64 = j := by omega
      simp [hj, this]
  · rw [if_neg h]
    by_cases hj : j < 64
    · have : ¬ x = 64 * i + j := by omega
      simp [this]
    · simp [hj]
theorem ccells_or (c x : Nat) (hx : x < 256) : (ccells c).setIfInBounds (x / 64) (vu (wd c (x / 64) ||| 2 ^ (x % 64))) = ccells (c ||| 2 ^ x) := by
  have h : ∀ i, i < 4 → wd (c ||| 2 ^ x) i = if i = x / 64 then wd c i ||| 2 ^ (x % 64) else wd c i := fun i hi => by
    rw [wd_or, wd_pow x i hx hi]
    split <;> simp
  unfold ccells
  rw [h 0 (by decide), h 1 (by decide), h 2 (by decide), h 3 (by decide)]
  have : x / 64 = 0 ∨ x / 64 = 1 ∨ x / 64 = 2 ∨ x / 64 = 3 := by omega
  rcases this with e | e | e | e <;> rw [e] <;> simp

theorem add_c (g c x : Nat) (hx : x < 256) (w : World) (hb : Blk w g 56 (ccells c)) : Calls Tryz.prog 145 #[.pointer (some ⟨g, 0, none⟩), .int .u8 x] w fun e w' => (∃ v, e = .returned v) ∧ Blk w' g 56 (ccells (c ||| 2 ^ x)) ∧ Below g w w' ∧ w'.heap.size = w.heap.size := by
  have hw := wd_lt c (x / 64)
  have hp : (2 : Nat) ^ (x % 64) < 18446744073709551616 := Nat.lt_of_lt_of_le (Nat.pow_lt_pow_right (by decide) (Nat.mod_lt x (by decide))) (by decide)
  have hbits := bits_or_u64_nat (wd c (x / 64)) (2 ^ (x % 64)) hw hp
  have hat := ccells_at c (x / 64) (by omega)
  have c1 : w.drew.cell? ⟨g, x / 64, none⟩ = some (vu (wd c (x / 64))) := (hb.cell (x / 64)).trans hat
  have f1 : w.drew.frozen? ⟨g, x / 64, none⟩ = false := hb.frozen (x / 64)
  have hwr : IntKind.u64.wrap ((2 : Int) ^ (x % 64)) = ((2 ^ (x % 64) : Nat) : Int) := by
    rw [IntKind.wrap_u64, Int.natCast_pow]
    have : ((2 ^ (x % 64) : Nat) : Int) < 18446744073709551616 := by omega
    rw [Int.natCast_pow] at this
    exact Int.emod_eq_of_lt (Int.pow_nonneg (by decide)) this
  have HB := Lib.hid hb
  have HW := Lib.hid hwr
  have HT := Lib.hid hbits
  have hl : x / 64 < 4 := by omega
  clear hb hat hw hwr hbits
  go_enter Tryz.func145, Tryz.ntmps145
  refine wp_region_r2 (by kernel_rfl) 12 12 (fun W => W.cell? ⟨g, x / 64, none⟩ = some (vu (wd c (x / 64)))) (by decide +kernel) (fun _ _ d _ _ h => by cases d <;> exact h) c1 ?_
  clear c1
  obtain ⟨q, hq⟩ : ∃ q, x / 64 = q := ⟨_, rfl⟩
  obtain ⟨r, hr⟩ : ∃ r, x % 64 = r := ⟨_, rfl⟩
  have q1 : IntKind.u8.wrap ((x : Int) / 64) = (q : Int) := by rw [IntKind.wrap_u8]; omega
  have q2 : IntKind.u8.wrap ((x : Int) % 64) = (r : Int) := by rw [IntKind.wrap_u8]; omega
  have HX := Lib.hid (And.intro hq hr)
  rw [hq] at f1 hl ⊢
  rw [hr] at hp
  clear hq hr
  dsimp only [List.take]
  iterate 12 (refine ⟨?_, fun W hS => ?_, ?_⟩; rotate_left; (focus (go_simp; first | done | rfl | rw [if_pos (by omega)])); simp only [Act.put, List.setIfInBounds_toArray, List.set_cons_zero, List.set_cons_succ])
  dsimp only [RdC, List.drop, Nat.reduceSub, wpListS]
  have c2 : w.drew.cell? ⟨g, q, none⟩ = some (vu (wd c q)) := by rw [← HX.out.1]; exact (HB.out.cell _).trans (ccells_at c _ (by omega))
  go_wp2_with fail
  have hv : Value.int .u64 (bits .or .u64 ((wd c q : Nat) : Int) (IntKind.u64.wrap (2 ^ min (x % 64) 64))) = vu (wd c (x / 64) ||| 2 ^ (x % 64)) := by
    rw [show min (x % 64) 64 = x % 64 by omega, HW.out, ← HX.out.1, HT.out]
  rw [hv, ← HX.out.1]
  go_end0
  have hb := HB.out.set_ (x / 64) (vu (wd c (x / 64) ||| 2 ^ (x % 64)))
  rw [ccells_or c x hx] at hb
  exact ⟨⟨_, rfl⟩, hb, ((Below.refl g w).setCell (p := ⟨g, x / 64, none⟩) (Nat.le_refl _) _).drew, by simp⟩

/-- the class of a list of bytes -/
def ofC : List Nat → Nat → Nat
  | [], c => c
  | b :: r, c => ofC r (c ||| 2 ^ b)
theorem ccells_zero : #[vu 0, vu 0, vu 0, vu 0] = ccells 0 := by kernel_rfl
theorem of_c (K : Nat → Prop) (A : Option Addr) (n c : Nat) (l : List Nat) (w : World) (hn : l.length = n) (hc : n ≤ c) (hb : n ≤ 1048576) (hs : Sl w K A (u8s l)) (hl : ∀ x ∈ l, x < 256) : Calls Tryz.prog 126 #[.slice A n c] w (Gives w (encC (ofC l 0))) := by
  have HS := Lib.hid hs
  have HL := Lib.hid (And.intro hl hn)
  clear hs hl hn
  go_enter Tryz.func126, Tryz.ntmps126
  go_upto_region 2 with (first
    | (with_reducible refine at_oper (.alloc 56) rfl ?_
       first
       | (refine wpList_alloc_rowG w.heap.size rfl rfl 56 rfl _ zero56 ?_
          intro w1 k1 b1 s1)
       | (refine wpList_alloc_rowG (w.heap.size + 1) s1 rfl 56 rfl _ zero56 ?_
          intro w2 k2 b2 s2)))
  rw [ccells_zero] at k1 k2
  have H0 := Lib.hid (show Below w.heap.size w w2 ∧ Blk w2 w.heap.size 56 (ccells 0) ∧ Blk w2 (w.heap.size + 1) 56 (ccells 0) from ⟨b1.trans (b2.mono b1.size), k1.old b2, k2⟩)
  clear k1 k2 b1 b2
  go_wp2_with fail
  go_loopw [8] (fun s8 wr => ∃ (i c : Nat), i ≤ n ∧ s8 = vi i ∧ ofC (l.drop i) c = ofC l 0 ∧ Below w.heap.size w wr ∧ Blk wr w.heap.size 56 (ccells 0) ∧ Blk wr (w.heap.size + 1) 56 (ccells c)) (fun s8 _ => n - (intOf s8).toNat)
  case atStart => exact ⟨0, 0, Nat.zero_le _, rfl, rfl, H0.out⟩
  case round =>
    obtain ⟨i, cc, hi, rfl, ho, hm⟩ := hrel
    have HM := Lib.hid hm
    have HO := Lib.hid ho
    clear hm ho H0
    by_cases h4 : i < n
    · have d1 : decide ((i : Int) < n) = true := by simp; omega
      have hil : i < l.length := by rw [HL.out.2]; exact h4
      obtain ⟨ad, rfl, _, ck⟩ := u8s_at (w := wr) (HS.out.old (Old.of_below HM.out.1)) hil
      have hx := HL.out.1 _ (getD_mem' (d := 0) hil)
      have hdr := getD_drop hil
      obtain ⟨x, hx0⟩ : ∃ x, l.getD i 0 = x := ⟨_, rfl⟩
      rw [hx0] at ck hx hdr
      have HD := Lib.hid hdr
      clear hdr hx0 hil
      go_wp2_with (first
        | (go_at_call 145
           refine (add_c (w.heap.size + 1) cc x hx wr HM.out.2.2).mono ?_
           rintro e w' ⟨⟨v, rfl⟩, k5, b5, s5⟩
           have HM5 := Lib.hid (show Below w.heap.size w w' ∧ Blk w' w.heap.size 56 (ccells 0) ∧ Blk w' (w.heap.size + 1) 56 (ccells (cc ||| 2 ^ x)) from ⟨HM.out.1.trans (b5.mono (by omega)), HM.out.2.1.below b5 (by omega), k5⟩)
           clear k5 b5 s5))
      go_roundw
      case rel => exact ⟨i + 1, _, by omega, by go_num, by have := HO.out; rwa [HD.out, ofC] at this, HM5.out⟩
      case measure => simp [intOf]; omega
    · have d1 : decide ((i : Int) < n) = false := by simp; omega
      obtain rfl : i = n := by omega
      have HE := Lib.hid (show cc = ofC l 0 by
        have := HO.out
        rwa [List.drop_of_length_le (by rw [HL.out.2]; exact Nat.le_refl _), ofC] at this)
      have H1 := Lib.hid HM.out.1
      have H2 := Lib.hid HM.out.2.1
      have H3 := Lib.hid HM.out.2.2
      obtain ⟨Y, hY⟩ : ∃ Y, ccells cc = Y := ⟨_, rfl⟩
      have HY := Lib.hid (And.intro hY (And.intro (show Y.size = 4 by rw [← hY]; rfl) (hY ▸ encC_one cc)))
      have HY3 := Lib.hid (hY ▸ HM.out.2.2)
      clear hY
      go_wp2_with (first
        | (with_reducible refine at_oper (.load 56 (.tmp 3)) rfl ?_
           refine wpList_load_blk rfl 56 (.tmp 3) rfl (w.heap.size + 1) rfl 56 Y _ HY3.out Tryz.underlying56 rfl (by rw [HY.out.2.1]; exact size56) ?_)
        | (with_reducible refine at_oper (.store 56 (.tmp 2) (.tmp 15)) rfl ?_
           refine wpList_store_blk rfl 56 (.tmp 2) (.tmp 15) rfl rfl w.heap.size Y (ccells 0) 56 rfl rfl H2.out (by rw [HY.out.2.1]; exact size56) (by rw [HY.out.2.1]; rfl) HY.out.2.2 ?_
           intro w9 k9 o9
           have K9 := Lib.hid k9
           have O9 := Lib.hid o9
           clear k9 o9))
      refine bodyPost_ret (results_cell rfl _ _ w.heap.size rfl 56 _ K9.out Tryz.underlying56 rfl (by rw [HY.out.2.1]; exact size56)) rfl ?_
      exact ⟨by unfold encC; rw [← HE.out, HY.out.1], below_only H1.out O9.out (Nat.le_refl _)⟩
/-- the class of the bytes from lo on, n of them -/
def rangeC (lo : Nat) : Nat → Nat → Nat
  | 0, c => c
  | n + 1, c => rangeC (lo + 1) n (c ||| 2 ^ lo)
theorem range_c (lo hi : Nat) (hlo : lo < 256) (hhi : hi < 256) (w : World) : Calls Tryz.prog 146 #[.int .u8 lo, .int .u8 hi] w (Gives w (encC (rangeC lo (hi + 1 - lo) 0))) := by
  go_enter Tryz.func146, Tryz.ntmps146
  go_upto_region 2 with (first
    | (with_reducible refine at_oper (.alloc 56) rfl ?_
       first
       | (refine wpList_alloc_rowG w.heap.size rfl rfl 56 rfl _ zero56 ?_
          intro w1 k1 b1 s1)
       | (refine wpList_alloc_rowG (w.heap.size + 1) s1 rfl 56 rfl _ zero56 ?_
          intro w2 k2 b2 s2)))
  rw [ccells_zero] at k1 k2
  have H0 := Lib.hid (show Below w.heap.size w w2 ∧ Blk w2 w.heap.size 56 (ccells 0) ∧ Blk w2 (w.heap.size + 1) 56 (ccells 0) from ⟨b1.trans (b2.mono b1.size), k1.old b2, k2⟩)
  clear k1 k2 b1 b2
  go_wp2_with fail
  go_loopw [6] (fun s6 wr => ∃ (i c : Nat), lo ≤ i ∧ i ≤ max lo (hi + 1) ∧ s6 = vi i ∧ rangeC i (hi + 1 - i) c = rangeC lo (hi + 1 - lo) 0 ∧ Below w.heap.size w wr ∧ Blk wr w.heap.size 56 (ccells 0) ∧ Blk wr (w.heap.size + 1) 56 (ccells c)) (fun s6 _ => 257 - (intOf s6).toNat)
  case atStart => exact ⟨lo, 0, Nat.le_refl _, by omega, rfl, rfl, H0.out⟩
  case round =>
    obtain ⟨i, cc, hi1, hi2, rfl, ho, hm⟩ := hrel
    have HM := Lib.hid hm
    have HO := Lib.hid ho
    clear hm ho H0
    by_cases h4 : i ≤ hi
    · have d1 : decide ((i : Int) ≤ (hi : Int)) = true := by simp; omega
      have q1 : IntKind.u8.wrap (i : Int) = (i : Int) := by rw [IntKind.wrap_u8]; omega
      have HD := Lib.hid (show hi + 1 - i = (hi + 1 - (i + 1)) + 1 by omega)
      go_wp2_with (first
        | (go_at_call 145
           refine (add_c (w.heap.size + 1) cc i (by omega) wr HM.out.2.2).mono ?_
           rintro e w' ⟨⟨v, rfl⟩, k5, b5, s5⟩
           have HM5 := Lib.hid (show Below w.heap.size w w' ∧ Blk w' w.heap.size 56 (ccells 0) ∧ Blk w' (w.heap.size + 1) 56 (ccells (cc ||| 2 ^ i)) from ⟨HM.out.1.trans (b5.mono (by omega)), HM.out.2.1.below b5 (by omega), k5⟩)
           clear k5 b5 s5))
      go_roundw
      case rel => exact ⟨i + 1, _, by omega, by omega, by go_num, by have := HO.out; rwa [HD.out, rangeC] at this, HM5.out⟩
      case measure => simp [intOf]; omega
    · have d1 : decide ((i : Int) ≤ (hi : Int)) = false := by simp; omega
      have HE := Lib.hid (show cc = rangeC lo (hi + 1 - lo) 0 by
        have := HO.out
        rwa [show hi + 1 - i = 0 by omega, rangeC] at this)
      have H1 := Lib.hid HM.out.1
      have H2 := Lib.hid HM.out.2.1
      have H3 := Lib.hid HM.out.2.2
      obtain ⟨Y, hY⟩ : ∃ Y, ccells cc = Y := ⟨_, rfl⟩
      have HY := Lib.hid (And.intro hY (And.intro (show Y.size = 4 by rw [← hY]; rfl) (hY ▸ encC_one cc)))
      have HY3 := Lib.hid (hY ▸ HM.out.2.2)
      clear hY
      go_wp2_with (first
        | (with_reducible refine at_oper (.load 56 (.tmp 5)) rfl ?_
           refine wpList_load_blk rfl 56 (.tmp 5) rfl (w.heap.size + 1) rfl 56 Y _ HY3.out Tryz.underlying56 rfl (by rw [HY.out.2.1]; exact size56) ?_)
        | (with_reducible refine at_oper (.store 56 (.tmp 4) (.tmp 18)) rfl ?_
           refine wpList_store_blk rfl 56 (.tmp 4) (.tmp 18) rfl rfl w.heap.size Y (ccells 0) 56 rfl rfl H2.out (by rw [HY.out.2.1]; exact size56) (by rw [HY.out.2.1]; rfl) HY.out.2.2 ?_
           intro w9 k9 o9
           have K9 := Lib.hid k9
           have O9 := Lib.hid o9
           clear k9 o9))
      refine bodyPost_ret (results_cell rfl _ _ w.heap.size rfl 56 _ K9.out Tryz.underlying56 rfl (by rw [HY.out.2.1]; exact size56)) rfl ?_
      exact ⟨by unfold encC; rw [← HE.out, HY.out.1], below_only H1.out O9.out (Nat.le_refl _)⟩

/-- what 'merge' holds in memory -/
structure MS (w wr : World) (cs : Array Value) (ks : List BL) (cells classes : List Nat) (of_ : List Int) (A1 : Option Addr) (c1 : Nat) (A2 : Option Addr) (c2 : Nat) : Prop where
  below : Below w.heap.size w wr
  tab : Blk wr w.heap.size 73 cs
  map : IdMap 9 (fun l : BL => strV l.1) wr (w.heap.size + 1) ks
  ofb : Blk wr (w.heap.size + 1 + 1) 3 (zia of_)
  cel : Own wr (w.heap.size + 1 + 1 + 1) 3 A1 cells.length c1 (vis cells)
  cls : OwnS wr (w.heap.size + 1 + 1 + 1) 56 4 A2 classes.length c2 (ccl classes)
section
variable {w wr w' : World} {cs : Array Value} {ks : List BL} {cells classes : List Nat} {of_ : List Int} {A1 A2 : Option Addr} {c1 c2 : Nat}
theorem MS.ne (h : MS w wr cs ks cells classes of_ A1 c1 A2 c2) {g : Nat} (h1 : obl A1 = some g) (h2 : obl A2 = some g) : False := by
  obtain ⟨x, hx⟩ := h.cel.type h1
  obtain ⟨y, hy⟩ := h.cls.type h2
  rw [hx] at hy
  injection hy with hy
  injection hy with _ hy
  cases hy
theorem MS.step (h : MS w wr cs ks cells classes of_ A1 c1 A2 c2) (hb : Below wr.heap.size wr w') : MS w w' cs ks cells classes of_ A1 c1 A2 c2 :=
  ⟨h.below.trans (hb.mono h.below.size), h.tab.old hb, h.map.below hb, h.ofb.old hb, h.cel.below hb, h.cls.below hb⟩
theorem MS.put (h : MS w wr cs ks cells classes of_ A1 c1 A2 c2) {k : BL} (hm : IdMap 9 (fun l : BL => strV l.1) w' (w.heap.size + 1) (ks ++ [k])) (hg : wr.grownBy w' (some (w.heap.size + 1))) : MS w w' cs (ks ++ [k]) cells classes of_ A1 c1 A2 c2 := by
  have h2 := h.ofb.lt
  refine ⟨below_grown h.below hg (by omega) (fun k e => by cases e; omega), h.tab.grown hg (fun e => by injection e with e; omega), hm, h.ofb.grown hg (fun e => by injection e with e; omega), h.cel.keep fun g e => hg.block g (h.cel.lt _ e).2 fun e' => ?_, h.cls.keep fun g e => hg.block g (h.cls.lt _ e).2 fun e' => ?_⟩
  · have := (h.cel.lt _ e).1; simp at e'; omega
  · have := (h.cls.lt _ e).1; simp at e'; omega
theorem MS.seto (h : MS w wr cs ks cells classes of_ A1 c1 A2 c2) {x : Nat} {v : Int} (h2 : Blk w' (w.heap.size + 1 + 1) 3 ((zia of_).setIfInBounds x (.int .i64 v))) (ho : Only (w.heap.size + 1 + 1) wr w') : MS w w' cs ks cells classes (of_.set x v) A1 c1 A2 c2 := by
  rw [zia_set] at h2
  refine ⟨below_only h.below ho (by omega), h.tab.only ho (by omega), h.map.only ho (by omega), h2, h.cel.only ho fun e => ?_, h.cls.only ho fun e => ?_⟩
  · have := (h.cel.lt _ e).1; omega
  · have := (h.cls.lt _ e).1; omega
theorem MS.grow (h : MS w wr cs ks cells classes of_ A1 c1 A2 c2) {X : Obj} {A : Option Addr} (hA : ∀ k, obl A = some k → w.heap.size + 1 + 1 + 1 ≤ k) (hgr : (wr.alloc X).grownBy w' (obl A)) :
    Below w.heap.size w w' ∧ Blk w' w.heap.size 73 cs ∧ IdMap 9 (fun l : BL => strV l.1) w' (w.heap.size + 1) ks ∧ Blk w' (w.heap.size + 1 + 1) 3 (zia of_) := by
  have h2 := h.step (w' := wr.alloc X) ((Below.refl _ _).alloc (Nat.le_refl _) _)
  have h3 := h2.ofb.lt
  exact ⟨below_grown h2.below hgr (by omega) (fun k e => by have := hA k e; omega), h2.tab.grown hgr (fun e => by have := hA _ e; omega), h2.map.grown hgr (fun e => by have := hA _ e; omega), h2.ofb.grown hgr (fun e => by have := hA _ e; omega)⟩
theorem MS.pushc (h : MS w wr cs ks cells classes of_ A1 c1 A2 c2) {t : TypeId} {x : Nat} {A' : Option Addr} {c' : Nat} (hown : Own w' (w.heap.size + 1 + 1 + 1) 3 A' (cells.length + 1) c' (vis cells ++ [vi x])) (hgr : (wr.alloc (.cells #[vi x] t)).grownBy w' (obl A1)) : MS w w' cs ks (cells ++ [x]) classes of_ A' c' A2 c2 := by
  obtain ⟨h1, h2, h3, h4⟩ := h.grow (fun k e => (h.cel.lt _ e).1) hgr
  refine ⟨h1, h2, h3, h4, by rw [vis_snoc, List.length_append]; exact hown, (h.cls.alloc _).keep fun g e => hgr.block g ((h.cls.alloc _).lt _ e).2 fun e' => ?_⟩
  exact h.ne (by rw [← e']) e
theorem MS.pushC (h : MS w wr cs ks cells classes of_ A1 c1 A2 c2) {t : TypeId} {x : Nat} {A' : Option Addr} {c' : Nat} (hown : OwnS w' (w.heap.size + 1 + 1 + 1) 56 4 A' (classes.length + 1) c' (ccl classes ++ (ccells x).toList)) (hgr : (wr.alloc (.cells (ccells x) t)).grownBy w' (obl A2)) : MS w w' cs ks cells (classes ++ [x]) of_ A1 c1 A' c' := by
  obtain ⟨h1, h2, h3, h4⟩ := h.grow (fun k e => (h.cls.lt _ e).1) hgr
  refine ⟨h1, h2, h3, h4, (h.cel.alloc _).keep fun g e => hgr.block g ((h.cel.alloc _).lt _ e).2 fun e' => ?_, by rw [ccl_snoc, List.length_append]; exact hown⟩
  exact h.ne e (by rw [← e'])
theorem MS.setC (h : MS w wr cs ks cells classes of_ A1 c1 A2 c2) {k x : Nat} (hk : k < classes.length) {ad : Addr} (hA : A2 = some ad) (hown : OwnS w' (w.heap.size + 1 + 1 + 1) 56 4 A2 classes.length c2 ((ccl classes).take (k * 4) ++ (ccells x).toList ++ (ccl classes).drop (k * 4 + 4))) (ho : Only ad.block wr w') : MS w w' cs ks cells (classes.set k x) of_ A1 c1 A2 c2 := by
  have hb := h.cls.lt ad.block (by rw [hA]; rfl)
  rw [ccl_set _ _ _ hk] at hown
  refine ⟨below_only h.below ho (by omega), h.tab.only ho (by omega), h.map.only ho (by omega), h.ofb.only ho (by omega), h.cel.only ho fun e => h.ne e (by rw [hA]; rfl), by rw [List.length_set]; exact hown⟩
end
/-- the first i hold -1 -/
def ofl (i n : Nat) : List Int := List.replicate i (-1) ++ List.replicate (n - i) 0
theorem ofl_len (i n : Nat) (h : i ≤ n) : (ofl i n).length = n := by simp [ofl]; omega
theorem ofl_set (i n : Nat) (h : i < n) : (ofl i n).set i (-1) = ofl (i + 1) n := by
  unfold ofl
  rw [List.set_append_right _ _ (by simp), List.length_replicate, Nat.sub_self, show n - i = (n - (i + 1)) + 1 by omega, List.replicate_succ, List.set_cons_zero, List.replicate_succ', List.append_assoc]
  rfl
theorem ofl_full (n : Nat) : ofl n n = List.replicate n (-1) := by simp [ofl]
theorem ofl_zero (n : Nat) : ofl 0 n = List.replicate n 0 := by simp [ofl]

set_option maxRecDepth 100000 in
set_option maxHeartbeats 4000000 in
theorem merge_c (K K1 K2 : Nat → Prop) (cs : Array Value) (t : Tbl) (Ab : Option Addr) (cb : Nat) (block : List Nat) (Ar : Option Addr) (cr : Nat) (reps : List Nat) (w : World) (hR : RT w K cs t) (hcb : CB t block reps) (hb : RN w K1 Ab t.nxt.length cb block) (hr : RN w K2 Ar reps.length cr reps) : Calls Tryz.prog 114 #[.agg cs, .slice Ab t.nxt.length cb, .slice Ar reps.length cr] w
    fun e w' => ∃ A1 c1 A2 c2, e = .returned (.tuple #[.slice A1 (mergeT t block reps).cells.length c1, .slice A2 (mergeT t block reps).classes.length c2]) ∧ Own w' w.heap.size 3 A1 (mergeT t block reps).cells.length c1 (vis (mergeT t block reps).cells) ∧ OwnS w' w.heap.size 56 4 A2 (mergeT t block reps).classes.length c2 (ccl (mergeT t block reps).classes) ∧ Below w.heap.size w w' := by
  obtain ⟨A2, A3, c2, c3, hcs, hrr, _, hcl, hce, _⟩ := tab_fields hR
  obtain ⟨n, hn⟩ : ∃ n, t.nxt.length = n := ⟨_, rfl⟩
  obtain ⟨L, hL⟩ : ∃ L, reps.length = L := ⟨_, rfl⟩
  obtain ⟨N, hN⟩ : ∃ N, t.cells = N := ⟨_, rfl⟩
  have hcap := hrr.cap
  have hn1 := hcb.wt.pos
  have hn2 := hcb.wt.top
  have hLn := hcb.rl
  rw [hn] at hcap hn1 hn2 hLn
  rw [hL] at hLn
  rw [hN] at hce
  have hf : cs[257]? = some (.slice A2 n c2) := by rw [hcs, tcells_257 hcl, hn]
  have hf6 : cs[256]? = some (vi N) := by rw [hcs, tcells_256 hcl, hN]
  have HC := Lib.hid (show ∀ b, b < 256 → cs[b]? = some (vi (t.cell.getD b 0)) from fun b hb => by rw [hcs]; exact tcells_at hcl hb)
  have hb3 := hb.cap
  have hr3 := hr.cap
  rw [hn] at hb hb3 ⊢
  rw [hL] at hr hr3 ⊢
  have HR := Lib.hid hrr
  have HW := Lib.hid hcb
  have HB := Lib.hid hb
  have HRp := Lib.hid hr
  have HN := Lib.hid (And.intro hn (And.intro hL hN))
  clear hR hcs hrr hcb hb hr hcl hn hL hN
  go_enter Tryz.func114, Tryz.ntmps114
  go_upto_region 2 with (first
    | (with_reducible refine at_oper (.box 73 (.tmp 0)) rfl ?_
       refine wpList_box_rowG w.heap.size rfl rfl 73 (.tmp 0) rfl cs rfl ?_
       intro w1 k1 b1 s1
       have f6 := (k1.cell 256).trans hf6)
    | (with_reducible refine at_oper (.makeMap 171 none) rfl ?_
       refine wpList_makeMapG 9 (fun l : BL => strV l.1) (w.heap.size + 1) s1 rfl 171 rfl ?_
       intro w2 k2 b2 s2))
  have f62 := cell_below b2 f6
  clear f6
  go_upto_region 5 with (first
    | (with_reducible refine at_oper (.makeSlice 64 (.tmp 23) (.tmp 23)) rfl ?_
       refine wpList_makeFullG (w.heap.size + 1 + 1) s2 rfl (.tmp 23) (.tmp 23) 64 rfl (.int .i64 0) Tryz.underlying64 info3 rfl N rfl rfl (by omega) (by omega) ?_
       intro w3 k3 b3 s3
       rw [zia_rep] at k3))
  have H0 := Lib.hid (show MS w w3 cs [] [] [] (ofl 0 N) none 0 none 0 from
    ⟨(b1.trans (b2.mono b1.size)).trans (b3.mono (by omega)), (k1.old b2).old b3, k2.below b3, by rw [ofl_zero]; exact k3, Own.nil_ _ _ _, OwnS.nil_ _ _ _ _⟩)
  clear k1 k2 k3 b1 b2 b3 f62
  go_wp2_with fail
  go_loopw [27] (fun s27 wr => ∃ i : Nat, i ≤ N ∧ s27 = vi i ∧ MS w wr cs [] [] [] (ofl i N) none 0 none 0) (fun s27 _ => N - (intOf s27).toNat)
  case atStart => exact ⟨0, Nat.zero_le _, rfl, H0.out⟩
  case round =>
    obtain ⟨i, hi, rfl, hm⟩ := hrel
    have HM := Lib.hid hm
    clear hm H0
    by_cases hiN : i < N
    · have d1 : decide ((i : Int) < N) = true := by simp; omega
      have c9 := (HM.out.ofb.cell i).trans (zia_get (by rw [ofl_len _ _ hi]; exact hiN))
      have f9 := HM.out.ofb.frozen i
      have HM9 := Lib.hid (HM.out.seto (HM.out.ofb.set_ i (.int .i64 (-1))) (Only.setCell _ _ _ _))
      go_wp2_with fail
      go_roundw
      case rel => exact ⟨i + 1, by omega, by go_num, by have := HM9.out; rwa [ofl_set _ _ hiN] at this⟩
      case measure => simp [intOf]; omega
    · have d1 : decide ((i : Int) < N) = false := by simp; omega
      have hiN' : i = N := by omega
      have HM1 := Lib.hid (show MS w wr cs [] [] [] (List.replicate N (-1)) none 0 none 0 by
        have := HM.out
        rwa [hiN', ofl_full] at this)
      clear hiN' HM
      go_wp2_with fail
      go_loopw [9, 10, 34] (fun s9 s10 s34 wr => ∃ (b : Nat) (m : Mg) (ks : List BL) (A1 : Option Addr) (c1 : Nat) (A2 : Option Addr) (c2 : Nat), b ≤ 256 ∧ s34 = vi b ∧ s9 = .slice A1 m.cells.length c1 ∧ s10 = .slice A2 m.classes.length c2 ∧ MS w wr cs ks m.cells m.classes m.of_ A1 c1 A2 c2 ∧ keysOf ks = m.keys ∧ MI t b m ∧ mgLoop t block reps (256 - b) b m = mergeT t block reps) (fun _ _ s34 _ => 256 - (intOf s34).toNat)
      case atStart => exact ⟨0, ⟨[], [], [], List.replicate N (-1)⟩, [], none, 0, none, 0, by decide, rfl, rfl, rfl, HM1.out, rfl, by rw [← HN.out.2.2]; exact MI.start t, by rw [← HN.out.2.2]; rfl⟩
      case round =>
        clear HM1
        obtain ⟨b, m, ks, A1, c1, A2', c2', hb, rfl, rfl, rfl, hm, hk, hmi, hq⟩ := hrel
        have HM := Lib.hid hm
        have HK := Lib.hid hk
        have HI := Lib.hid hmi
        have HQ := Lib.hid hq
        have hle := hmi.le
        have hcc := hm.cel.cap.1
        have hCc := hm.cls.cap.1
        clear hm hk hmi hq
        by_cases hb6 : b < 256
        · have d2 : decide ((b : Int) < 256) = true := by simp; omega
          obtain ⟨c, hc⟩ : ∃ c, t.cell.getD b 0 = c := ⟨_, rfl⟩
          have hcN : c < N := by rw [← hc, ← HN.out.2.2]; exact getD_lt HW.out.wt.cl (by rw [HW.out.wt.cell]; exact hb6)
          have fb := (HM.out.tab.cell b).trans (HC.out b hb6)
          rw [hc] at fb
          have hol : c < m.of_.length := by rw [HI.out.ol, HN.out.2.2]; exact hcN
          obtain ⟨o, ho⟩ : ∃ o, m.of_.getD c 0 = o := ⟨_, rfl⟩
          have fo := (HM.out.ofb.cell c).trans (zia_get hol)
          rw [ho] at fo
          have hoi := HI.out.oi c (by rw [HN.out.2.2]; exact hcN)
          rw [ho] at hoi
          have HO := Lib.hid (And.intro hc (And.intro ho (And.intro hoi hol)))
          clear hc ho hoi hol
          go_upto_if 45 with fail
          obtain ⟨bo, hbo⟩ : ∃ bo, decide (o < 0) = bo := ⟨_, rfl⟩
          rw [hbo]
          have HBO := Lib.hid hbo
          clear hbo
          go_cut [9, 10] from 46 to 102 (fun s9 s10 wz => ∃ (ks : List BL) (m' : Mg) (A1 : Option Addr) (c1 : Nat) (A2 : Option Addr) (c2 : Nat) (id : Nat), s9 = .slice A1 m'.cells.length c1 ∧ s10 = .slice A2 m'.classes.length c2 ∧ MS w wz cs ks m'.cells m'.classes m'.of_ A1 c1 A2 c2 ∧ keysOf ks = m'.keys ∧ m'.of_.getD c 0 = (id : Int) ∧ id < m'.classes.length ∧ m'.classes.length ≤ 256 ∧ m'.of_.length = N ∧ mgStep t block reps m b = mgAdd m' b id)
          case first =>
            cases bo with
            | true =>
              have ho : o < 0 := by simpa using HBO.out
              have hmk : mgStep t block reps m b = match idxK (keyM t.nxt block reps c) m.keys 0 with
                  | some id => mgAdd { m with of_ := m.of_.set c id } b id
                  | none => mgAdd ⟨m.keys ++ [keyM t.nxt block reps c], m.cells ++ [c], m.classes ++ [0], m.of_.set c (m.cells.length : Nat)⟩ b m.cells.length := by
                unfold mgStep
                simp only [HO.out.1, HO.out.2.1]
                rw [if_neg (by omega)]
                rfl
              have HMK := Lib.hid hmk
              clear hmk
              go_upto_region 16 with (first
                | (with_reducible refine at_oper (.makeSlice 22 (.const (.int .i64 0)) (.tmp 48)) rfl ?_
                   refine wpList_makeCap rfl (.const (.int .i64 0)) (.tmp 48) 22 rfl app22 wr.heap.size (2 * L) rfl (congrArg (Value.int .i64) (by omega)) (by omega) (by omega) (Nat.le_refl _) ?_
                   intro w5 own5 gr5
                   have HO5 := Lib.hid own5
                   have HB5 := Lib.hid (below_grown (Below.refl wr.heap.size wr) gr5 (Nat.le_refl _) (fun k e => by cases e))
                   clear own5 gr5))
              generalize wr = ws at *
              go_wp2_with fail
              go_loopw [15, 52] (fun s15 s52 wx => ∃ (j : Nat) (key : List Nat) (A' : Option Addr) (c' : Nat), j ≤ L ∧ s52 = vi j ∧ s15 = .slice A' key.length c' ∧ Below ws.heap.size ws wx ∧ Own wx ws.heap.size 5 A' key.length c' (u8s key) ∧ key ++ keyM t.nxt block (reps.drop j) c = keyM t.nxt block reps c ∧ key.length ≤ 2 * j ∧ ∀ x ∈ key, x < 256) (fun _ s52 _ => L - (intOf s52).toNat)
              case atStart => exact ⟨0, [], _, _, Nat.zero_le _, rfl, rfl, HB5.out, HO5.out, rfl, Nat.le_refl _, fun x hx => by simp at hx⟩
              case round =>
                clear HO5 HB5
                obtain ⟨j, key, A', c', hj, rfl, rfl, hbw, hown, hke, hkl, hkb⟩ := hrel
                have HBW := Lib.hid hbw
                have HOw := Lib.hid hown
                have HKE := Lib.hid (And.intro hke hkb)
                have hac' := hown.cap.1
                clear hbw hown hke hkb
                by_cases hjL : j < L
                · have d4 : decide ((j : Int) < L) = true := by simp; omega
                  obtain ⟨adp, rfl, _, cj⟩ := (HRp.out.below (HM.out.step HBW.out).below).at_ hjL
                  have hjr : j < reps.length := by rw [HN.out.2.1]; exact hjL
                  obtain ⟨s, hs⟩ : ∃ s, reps.getD j 0 = s := ⟨_, rfl⟩
                  have hsn : s < n := by rw [← hs, ← HN.out.1]; exact HW.out.rs _ (getD_mem' hjr)
                  have hdr := getD_drop hjr
                  rw [hs] at cj hdr
                  obtain ⟨adr, Arr, crr, rfl, _, cr0, hrow⟩ := HR.out.at_ (k := s) (by rw [HN.out.1]; exact hsn)
                  have hrow2 := HW.out.wt.row (t.nxt.getD s []) (getD_mem' (by rw [HN.out.1]; exact hsn))
                  rw [hrow2.1, HN.out.2.2] at cr0 hrow
                  have cr1 := cell_below (HM.out.step HBW.out).below cr0
                  have ct := ((HM.out.step HBW.out).tab.cell 257).trans hf
                  obtain ⟨adx, rfl, _, cx⟩ := (hrow.below (HM.out.step HBW.out).below).at_ hcN
                  obtain ⟨x, hx⟩ : ∃ x, (t.nxt.getD s []).getD c 0 = x := ⟨_, rfl⟩
                  have hxn : x < n := by rw [← hx, ← HN.out.1]; exact hrow2.2 _ (getD_mem' (by rw [hrow2.1, HN.out.2.2]; exact hcN))
                  rw [hx] at cx
                  obtain ⟨ady, rfl, _, cy⟩ := (HB.out.below (HM.out.step HBW.out).below).at_ hxn
                  obtain ⟨y, hy⟩ : ∃ y, block.getD x 0 = y := ⟨_, rfl⟩
                  rw [hy] at cy
                  have hcr := hrow.cap
                  have HD := Lib.hid (show keyM t.nxt block (reps.drop j) c = two y ++ keyM t.nxt block (reps.drop (j + 1)) c by
                    rw [hdr]
                    unfold keyM
                    rw [List.flatMap_cons, hx, hy])
                  clear hjr hs hdr hrow hrow2 cr0 hx hy
                  have HB6 := Lib.hid (HBW.out.alloc HBW.out.size (.cells #[.int .u8 ((y : Int) % 256), .int .u8 ((y : Int) / 256 % 256)] 5))
                  go_wp2_with (first
                    | (at_builtin
                       refine wpList_append2 rfl (.tmp 67) (.tmp 73) rfl ws.heap.size A' key.length c' key rfl (HOw.out.alloc _) _ y _ rfl (Blk.new _ 5 _) (by omega) HB6.out.size ?_
                       intro A6 c6 w6 own6 gr6
                       have HO6 := Lib.hid own6
                       have HB7 := Lib.hid (HB6.out.grown gr6 HB6.out.size (fun k e => (HOw.out.lt _ e).1))
                       clear own6 gr6))
                  go_roundw
                  case rel => exact ⟨j + 1, key ++ two y, A6, c6, by omega, by go_num, by simp [two_len], HB7.out, by simpa [two_len] using HO6.out, by
                    rw [List.append_assoc, ← HD.out]; exact HKE.out.1, by rw [List.length_append, two_len]; omega, fun z hz => by
                    rcases List.mem_append.1 hz with h1 | h1
                    · exact HKE.out.2 z h1
                    · exact two_lt y z h1⟩
                  case measure => simp [intOf]; omega
                · have d4 : decide ((j : Int) < L) = false := by simp; omega
                  have hjL' : j = L := by omega
                  have hkey : key = keyM t.nxt block reps c := by
                    have := HKE.out.1
                    rwa [List.drop_of_length_le (by rw [HN.out.2.1]; omega), show keyM t.nxt block [] c = [] from rfl, List.append_nil] at this
                  have HKey := Lib.hid hkey
                  obtain ⟨r, hr⟩ : ∃ r, idxK (⟨key, HKE.out.2⟩ : BL) ks 0 = r := ⟨_, rfl⟩
                  have hr2 : idxK (keyM t.nxt block reps c) m.keys 0 = r := by rw [← hkey, ← HK.out, ← idxK_sub key HKE.out.2, hr]
                  have HR2 := Lib.hid (And.intro hr hr2)
                  have HM2 := Lib.hid (HM.out.step HBW.out)
                  have HKL := Lib.hid (show ks.length = m.cells.length by rw [← HI.out.kl, ← HK.out, keysOf, List.length_map])
                  clear hkey hr hr2
                  cases r with
                  | some id =>
                    have hid := Lib.hid (show id < m.cells.length by rw [← HI.out.kl]; exact (idxK_is _ _ HR2.out.2).2)
                    go_wp2_with (first
                      | (with_reducible refine at_oper (.convert 22 9 (.tmp 78)) rfl ?_
                         refine wpList_toString rfl (.tmp 78) rfl rfl rfl (HOw.out.sl (K := TT) fun _ _ => trivial) ?_)
                      | (with_reducible refine at_oper (.lookup 171 (.tmp 77) (.tmp 79) true) rfl ?_
                         refine wpList_lookup_id rfl (.tmp 77) (.tmp 79) 171 rfl kt_str Tryz.underlying171 rfl HM2.out.map ⟨key, HKE.out.2⟩ (show key.length ≤ 9223372036854775807 by omega) rfl ?_
                         intro cI hcI
                         obtain rfl := hcI id HR2.out.1
                         rw [HR2.out.1]
                         clear hcI)
                      | (with_reducible refine at_oper (.store 3 (.tmp 102) (.tmp 101)) rfl ?_
                         refine wpList_store_at rfl 3 (.tmp 102) (.tmp 101) rfl rfl (w.heap.size + 1 + 1) c (vi id) (zia m.of_) 3 rfl rfl HM2.out.ofb (by rw [zia_size]; exact HO.out.2.2.2) size3 rfl ?_
                         intro w9 k9 o9
                         have HM9 := Lib.hid (HM2.out.seto k9 o9)
                         clear k9 o9))
                    go_meet
                    case rel => exact ⟨ks, { m with of_ := m.of_.set c id }, A1, c1, A2', c2', id, rfl, rfl, HM9.out, HK.out, by simp only; rw [getD_set, if_pos ⟨rfl, HO.out.2.2.2⟩], by simp only; rw [HI.out.cl]; exact hid.out, by simp only; rw [HI.out.cl]; omega, by simp only; rw [List.length_set, HI.out.ol, HN.out.2.2], by rw [HMK.out, HR2.out.2]⟩
                  | none =>
                    have HNK := Lib.hid (show (⟨key, HKE.out.2⟩ : BL) ∉ ks from (idxK_none _ _ 0).1 HR2.out.1)
                    go_wp2_with (first
                      | (with_reducible refine at_oper (.convert 22 9 (.tmp 78)) rfl ?_
                         refine wpList_toString rfl (.tmp 78) rfl rfl rfl (HOw.out.sl (K := TT) fun _ _ => trivial) ?_)
                      | (with_reducible refine at_oper (.convert 22 9 (.tmp 88)) rfl ?_
                         refine wpList_toString rfl (.tmp 88) rfl rfl rfl (HOw.out.sl (K := TT) fun _ _ => trivial) ?_)
                      | (with_reducible refine at_oper (.lookup 171 (.tmp 77) (.tmp 79) true) rfl ?_
                         refine wpList_lookup_id rfl (.tmp 77) (.tmp 79) 171 rfl kt_str Tryz.underlying171 rfl HM2.out.map ⟨key, HKE.out.2⟩ (show key.length ≤ 9223372036854775807 by omega) rfl ?_
                         intro cI _
                         rw [HR2.out.1])
                      | (with_reducible refine at_oper (.mapUpdate 171 (.tmp 87) (.tmp 89) (.tmp 90)) rfl ?_
                         refine wpList_mapUpdate_id rfl (.tmp 87) (.tmp 89) (.tmp 90) 171 rfl kt_str Tryz.underlying171 rfl HM2.out.map ⟨key, HKE.out.2⟩ (show key.length ≤ 9223372036854775807 by omega) HNK.out rfl (by rw [HKL.out]; rfl) (by rw [HKL.out]; omega) ?_
                         intro w6 k6 g6
                         have HM6 := Lib.hid (HM2.out.put k6 g6)
                         clear k6 g6)
                      | (at_builtin
                         first
                         | (refine wpList_push rfl (.tmp 91) (.tmp 93) 64 rfl app64 (w.heap.size + 1 + 1 + 1) A1 m.cells.length c1 (vis m.cells) rfl (HM6.out.cel.alloc _) _ (vi c) rfl ((Blk.new _ 3 _).cell 0) rfl (by omega) (by omega) (by have := HM6.out.ofb.lt; rw [World.size_alloc]; omega) ?_
                            intro A7 c7 w7 own7 g7 _
                            have HM7 := Lib.hid (HM6.out.pushc own7 g7)
                            clear own7 g7)
                         | (refine wpList_appendSS rfl (.tmp 95) (.tmp 97) 24 rfl app24 (w.heap.size + 1 + 1 + 1) A2' m.classes.length c2' (ccl m.classes) rfl (HM7.out.cls.alloc _) _ 1 1 (ccells 0).toList rfl rfl (K := TT) ((Blk.new _ 56 _).sl.weak fun _ _ _ => trivial) (by decide) (by rw [HI.out.cl]; omega) (by rw [HI.out.cl]; omega) (by have := HM7.out.ofb.lt; rw [World.size_alloc]; omega) ?_
                            intro A8 c8 w8 own8 g8 _
                            have HM8 := Lib.hid (HM7.out.pushC own8 g8)
                            clear own8 g8))
                      | (with_reducible refine at_oper (.store 3 (.tmp 102) (.tmp 101)) rfl ?_
                         refine wpList_store_at rfl 3 (.tmp 102) (.tmp 101) rfl rfl (w.heap.size + 1 + 1) c (vi m.cells.length) (zia m.of_) 3 rfl rfl HM8.out.ofb (by rw [zia_size]; exact HO.out.2.2.2) size3 rfl ?_
                         intro w9 k9 o9
                         have HM9 := Lib.hid (HM8.out.seto k9 o9)
                         clear k9 o9))
                    go_meet
                    case rel => exact ⟨ks ++ [⟨key, HKE.out.2⟩], ⟨m.keys ++ [keyM t.nxt block reps c], m.cells ++ [c], m.classes ++ [0], m.of_.set c (m.cells.length : Nat)⟩, A7, c7, A8, c8, m.cells.length, by simp, by simp, HM9.out, by rw [keysOf_snoc, HK.out]; exact congrArg (fun k => m.keys ++ [k]) HKey.out, by simp only; rw [getD_set, if_pos ⟨rfl, HO.out.2.2.2⟩], by simp only; rw [List.length_append, HI.out.cl]; simp, by simp only; rw [List.length_append, HI.out.cl]; simp; omega, by simp only; rw [List.length_set, HI.out.ol, HN.out.2.2], by rw [HMK.out, HR2.out.2]⟩
            | false =>
              have ho : 0 ≤ o := by simpa using HBO.out
              go_wp2_with fail
              go_meet
              case rel =>
                have h1 := HO.out.2.2.1
                have h2 : o.toNat < m.cells.length := by omega
                exact ⟨ks, m, A1, c1, A2', c2', o.toNat, rfl, rfl, HM.out, HK.out, by rw [HO.out.2.1]; omega, by rw [HI.out.cl]; exact h2, by rw [HI.out.cl]; omega, by rw [HI.out.ol, HN.out.2.2], by
                  unfold mgStep
                  simp only [HO.out.1, HO.out.2.1]
                  rw [if_pos (by omega)]⟩
          case rest =>
            clear fo fb hcc hCc
            obtain ⟨ks', m', B1, d1', B2, d2', id, rfl, rfl, hm, hk, hoc, hid, h256, hol, hst⟩ := hcut
            obtain ⟨ad, rfl, hcl⟩ := own_cls_at hm.cls hid
            have fo := (hm.ofb.cell c).trans (zia_get (by rw [hol]; exact hcN))
            rw [hoc] at fo
            obtain ⟨x, hx⟩ : ∃ x, m'.classes.getD id 0 = x := ⟨_, rfl⟩
            rw [hx] at hcl
            have HS := Lib.hid (show ∀ W, Below wc.heap.size wc W → W.cell? ⟨w.heap.size + 1 + 1, c, none⟩ = some (vi id) ∧ ∀ j v, (ccells x).toList[j]? = some v → W.cell? ((ad.add (id * 4)).add j) = some v from fun W hW => ⟨cell_below hW fo, fun j v hj => cell_below hW (hcl j v hj)⟩)
            have HM2 := Lib.hid hm
            have HX := Lib.hid (And.intro hk (And.intro hx (And.intro hst hol)))
            have hd2 := hm.cls.cap.1
            clear hm hk hoc hol hst hcl fo hx
            go_upto_region 29 with fail
            refine wp_region_r2 (by kernel_rfl) 14 17 (fun W => W.cell? ⟨w.heap.size + 1 + 1, c, none⟩ = some (vi id) ∧ ∀ j v, (ccells x).toList[j]? = some v → W.cell? ((ad.add (id * 4)).add j) = some v) (by decide +kernel) (fun _ _ d _ _ h => by cases d <;> exact h) (HS.out _ (Below.refl _ _).drew) ?_
            dsimp only [List.take]
            iterate 11 (refine ⟨?_, fun W hS => ?_, ?_⟩; rotate_left; (focus (have h1 := hS.1; clear hS; go_simp; first | done | rfl)); simp only [Act.put, List.setIfInBounds_toArray, List.set_cons_zero, List.set_cons_succ])
            refine ⟨?_, fun W hS => ?_, ?_⟩
            rotate_left
            · refine run_load_class (.tmp 113) ?_ (ad.add (id * 4)) ?_ x hS.2 <;> rfl
            simp only [Act.put, List.setIfInBounds_toArray, List.set_cons_zero, List.set_cons_succ]
            iterate 2 (refine ⟨?_, fun W hS => ?_, ?_⟩; rotate_left; (focus (clear hS; go_simp; first | done | rfl)); simp only [Act.put, List.setIfInBounds_toArray, List.set_cons_zero, List.set_cons_succ])
            dsimp only [RdC, List.drop, Nat.reduceSub, wpListS]
            have hbm : ((b : Int) % 256) = (b : Int) := by omega
            go_wp2_with fail
            dsimp only [segQ]
            have HB5 := Lib.hid (((Below.refl wc.heap.size wc).alloc (Nat.le_refl _) (.cells #[.int .u8 (b : Int)] 5)).drew)
            have HSl := Lib.hid (show Sl (wc.alloc (.cells #[.int .u8 (b : Int)] 5)).drew TT (some ⟨wc.heap.size, 0, none⟩) (u8s [b]) from
              Sl.old (w := wc.alloc (.cells #[.int .u8 (b : Int)] 5)) ((Blk.new wc 5 #[.int .u8 (b : Int)]).sl.weak fun _ _ _ => trivial) fun _ _ _ => rfl)
            refine ⟨HS.out _ HB5.out, ?_⟩
            go_wp2_with (first
              | (go_at_call 126
                 refine (of_c TT (some ⟨wc.heap.size, 0, none⟩) 1 1 [b] _ rfl (Nat.le_refl _) (by decide) HSl.out (fun x hx => by simp at hx; omega)).mono ?_
                 rintro e w6 ⟨rfl, hb6⟩
                 have HB6 := Lib.hid (HB5.out.trans (hb6.mono HB5.out.size))
                 clear hb6))
            dsimp only [segQ]
            refine ⟨HS.out _ HB6.out, ?_⟩
            go_wp2_with (first
              | (go_at_call 47
                 refine (union_class_c x (ofC [b] 0) w6).mono ?_
                 rintro e w7 ⟨rfl, hb7⟩
                 have HB7 := Lib.hid (HB6.out.trans (hb7.mono HB6.out.size))
                 clear hb7))
            dsimp only [segQ]
            refine ⟨HS.out _ HB7.out, ?_⟩
            have fo7 := (HS.out _ HB7.out).1
            have HM7 := Lib.hid (HM2.out.step HB7.out)
            go_wp2_with (first
              | (with_reducible refine at_oper (.store 56 (.tmp 120) (.tmp 119)) rfl ?_
                 refine wpList_store_own rfl 56 (.tmp 120) (.tmp 119) rfl rfl HM7.out.cls id hid (ccells (x ||| ofC [b] 0)).toList rfl (ccl_one [_]) size56 ad rfl rfl rfl ?_
                 intro w9 k9 o9
                 have HM9 := Lib.hid (HM7.out.setC hid rfl k9 o9)
                 clear k9 o9))
            go_roundw
            case rel =>
              have hmg : mgStep t block reps m b = { m' with classes := m'.classes.set id (x ||| ofC [b] 0) } := by
                rw [HX.out.2.2.1, mgAdd, HX.out.2.1]
                simp [ofC]
              have hmi := mgStep_spec (block := block) (reps := reps) HW.out.wt hb6 HI.out
              have hq := HQ.out
              rw [show 256 - b = (256 - (b + 1)) + 1 by omega, mgLoop, hmg] at hq
              rw [hmg] at hmi
              exact ⟨b + 1, { m' with classes := m'.classes.set id (x ||| ofC [b] 0) }, ks', B1, d1', some ad, d2', by omega, by go_num, rfl, by simp, HM9.out, HX.out.1, hmi, hq⟩
            case measure => simp [intOf]; omega
        · have d2 : decide ((b : Int) < 256) = false := by simp; omega
          have HE := Lib.hid (show m = mergeT t block reps by
            have := HQ.out
            rwa [show 256 - b = 0 by omega, mgLoop] at this)
          go_wp2_with fail
          go_ret2
          rw [← HE.out]
          exact ⟨A1, c1, A2', c2', rfl, ownsRow_mono HM.out.cel (by omega), ownsRow_mono HM.out.cls (by omega), HM.out.below⟩
end Go.Proofs.YtjgkdfghjeodeaaGreatDoor
