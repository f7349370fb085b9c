/- language.letters. -/
import Derived.Test.YtjgkdfghjeodeaaGreatDoorT37
namespace Go.Proofs.YtjgkdfghjeodeaaGreatDoor
open Go.RowKit

theorem sizeC_zero : sizeC 0 = 0 := by decide +kernel
theorem leastC_bit {x : Nat} (hx : x < 2 ^ 256) (hx0 : x ≠ 0) : leastI x = (leastC x : Int) ∧ leastC x < 256 ∧ sizeC x ≠ 0 := by
  obtain ⟨j, hj⟩ := Nat.exists_testBit_of_ne_zero hx0
  have hj2 : j < 256 := by
    refine Classical.byContradiction fun h => ?_
    have := Nat.testBit_lt_two_pow (Nat.lt_of_lt_of_le hx (Nat.pow_le_pow_right (by decide) (by omega : 256 ≤ j)))
    rw [this] at hj
    cases hj
  have hm := mem_bytesC.2 ⟨hj2, hj⟩
  unfold leastI leastC sizeC
  cases hb : bytesC x with
  | nil => rw [hb] at hm; cases hm
  | cons b r =>
    have := mem_bytesC.1 (show b ∈ bytesC x by rw [hb]; exact List.mem_cons_self)
    exact ⟨rfl, this.1, by simp⟩
/-- what letters holds -/
structure LT_ (w wr : World) (c : Nat) (A : Option Addr) (c' m ga gD gs gd : Nat) (S D : List Nat) : Prop where
  below : Below w.heap.size w wr
  rc : RC wr (fun k => k < ga) A m c' (cells1 c)
  box : Blk wr w.heap.size 56 (ccells c)
  ret : Blk wr (w.heap.size + 1) 28 nil28
  acc : Blk wr ga 4 (vbs [false, true, false])
  d : Blk wr gD 28 #[.slice A m c', .slice none 0 0, .slice (some ⟨ga, 0, none⟩) 3 3]
  st : Blk wr gs 3 (via S)
  dd : Blk wr gd 3 (via D)
  o1 : w.heap.size + 1 < ga
  o2 : ga < gD
  o3 : gD < gs
  o4 : gD < gd
  o5 : gs ≠ gd
theorem LT_.step {w wr w' : World} {c : Nat} {A : Option Addr} {c' m ga gD gs gd : Nat} {S D : List Nat} (h : LT_ w wr c A c' m ga gD gs gd S D) (hb : Below wr.heap.size wr w') : LT_ w w' c A c' m ga gD gs gd S D :=
  ⟨h.below.trans (hb.mono h.below.size), h.rc.below hb, h.box.old hb, h.ret.old hb, h.acc.old hb, h.d.old hb, h.st.old hb, h.dd.old hb, h.o1, h.o2, h.o3, h.o4, h.o5⟩
theorem LT_.sets {w wr w' : World} {c : Nat} {A : Option Addr} {c' m ga gD gs gd : Nat} {S D S' : List Nat} (h : LT_ w wr c A c' m ga gD gs gd S D) (k : Blk w' gs 3 (via S')) (o : Only gs wr w') : LT_ w w' c A c' m ga gD gs gd S' D :=
  ⟨below_only h.below o (by have := h.o1; have := h.o2; have := h.o3; omega), h.rc.old fun k hk _ => o.block k (by have := h.o2; have := h.o3; have hk : k < ga := hk; omega), h.box.only o (by have := h.o1; have := h.o2; have := h.o3; omega), h.ret.only o (by have := h.o1; have := h.o2; have := h.o3; omega), h.acc.only o (by have := h.o2; have := h.o3; omega), h.d.only o (by have := h.o3; omega), k, h.dd.only o (Ne.symm h.o5), h.o1, h.o2, h.o3, h.o4, h.o5⟩
theorem LT_.setd {w wr w' : World} {c : Nat} {A : Option Addr} {c' m ga gD gs gd : Nat} {S D D' : List Nat} (h : LT_ w wr c A c' m ga gD gs gd S D) (k : Blk w' gd 3 (via D')) (o : Only gd wr w') : LT_ w w' c A c' m ga gD gs gd S D' :=
  ⟨below_only h.below o (by have := h.o1; have := h.o2; have := h.o4; omega), h.rc.old fun k hk _ => o.block k (by have := h.o2; have := h.o4; have hk : k < ga := hk; omega), h.box.only o (by have := h.o1; have := h.o2; have := h.o4; omega), h.ret.only o (by have := h.o1; have := h.o2; have := h.o4; omega), h.acc.only o (by have := h.o2; have := h.o4; omega), h.d.only o (by have := h.o4; omega), h.st.only o h.o5, k, h.o1, h.o2, h.o3, h.o4, h.o5⟩

set_option maxRecDepth 100000 in
set_option maxHeartbeats 4000000 in
theorem letters_c (c : Nat) (w : World) (hc : c < 2 ^ 256) (hT : Tab w) (hh : 0 < w.heap.size) : Calls Tryz.prog 36 #[encC c] w (GD (lettersD c) w) := by
  have HT := Lib.hid (And.intro hT (And.intro hh hc))
  clear hT hh hc
  obtain ⟨CC, hCC⟩ : ∃ CC, ccells c = CC := ⟨_, rfl⟩
  have zCC : CC.size = 4 := by rw [← hCC]; rfl
  have hE : encC c = .agg CC := by rw [← hCC]; rfl
  have HCC := Lib.hid (And.intro hCC hE)
  rw [hE]
  obtain ⟨R, hR⟩ : ∃ R, lettersD c = R := ⟨_, rfl⟩
  rw [hR]
  have HR := Lib.hid hR
  clear hR
  clear hCC hE
  go_enter Tryz.func36, Tryz.ntmps36
  go_upto_region 1 with (first
    | (with_reducible refine at_oper (.box 56 (.tmp 0)) rfl ?_
       refine wpList_box_rowG w.heap.size rfl rfl 56 (.tmp 0) rfl CC rfl ?_
       intro w1 k1 b1 s1)
    | (with_reducible refine at_oper (.alloc 28) rfl ?_
       refine wpList_alloc_rowG (w.heap.size + 1) s1 rfl 28 rfl _ zero28 ?_
       intro w2 k2 b2 s2
       have H2 := Lib.hid (show Below w.heap.size w w2 ∧ Blk w2 w.heap.size 56 CC ∧ Blk w2 (w.heap.size + 1) 28 nil28 from ⟨b1.trans (b2.mono (by omega)), k1.old (s1 ▸ b2), k2⟩)
       clear k1 b1 k2 b2 s2))
  clear s1
  by_cases h0 : c = 0
  · have hz : sizeC c = 0 := by rw [h0]; exact sizeC_zero
    have HZ := Lib.hid (And.intro hz (show R = noneD by rw [← HR.out, h0]; exact lettersD_zero))
    clear h0 hz
    go_wp2_with (first
      | (with_reducible refine at_oper (.load 56 (.tmp 1)) rfl ?_
         refine wpList_load_blk rfl 56 (.tmp 1) rfl w.heap.size rfl 56 CC _ H2.out.2.1 Tryz.underlying56 rfl (by rw [zCC]; exact size56) ?_)
      | (go_at_call 51
         rw [← HCC.out.2]
         refine (size_c c w2).mono ?_
         rw [HZ.out.1]
         rintro e w3 ⟨rfl, hb⟩
         have H3 := Lib.hid (show Below w.heap.size w w3 ∧ Blk w3 (w.heap.size + 1) 28 nil28 from ⟨H2.out.1.trans (hb.mono H2.out.1.size), H2.out.2.2.old hb⟩)
         clear hb)
      | (go_at_call 34
         refine (none_c w3 (HT.out.1.mono HT.out.2.1 H3.out.1) (by have := H3.out.1.size; have := HT.out.2.1; omega)).mono ?_
         rintro e w4 ⟨v, rfl, hd, hb⟩
         obtain ⟨c7, rfl, z7, o7⟩ := hd.cells
         have H4 := Lib.hid (show RD w4 (fun k => w3.heap.size ≤ k) (.agg c7) noneD.1 ∧ Below w.heap.size w w4 ∧ Blk w4 (w.heap.size + 1) 28 nil28 from ⟨hd, H3.out.1.trans (hb.mono H3.out.1.size), H3.out.2.old hb⟩)
         clear hd hb)
      | (with_reducible refine at_oper (.store 28 (.tmp 2) (.tmp 14)) rfl ?_
         refine wpList_store_blk rfl 28 (.tmp 2) (.tmp 14) rfl rfl (w.heap.size + 1) c7 nil28 28 rfl rfl H4.out.2.2 (by rw [z7]; exact size28) (by rw [z7]; rfl) o7 ?_
         intro w8 k8 o8
         have K8 := Lib.hid k8
         have O8 := Lib.hid o8
         clear k8 o8))
    refine bodyPost_ret (results_ct rfl _ _ _ rfl (w.heap.size + 1) rfl 28 _ K8.out Tryz.underlying28 rfl (by rw [z7]; exact size28)) rfl ?_
    have h3 := H3.out.2.lt
    rw [HZ.out.2]
    exact ⟨_, rfl, (H4.out.1.old fun k hk _ => O8.out.block k (by have hk : w3.heap.size ≤ k := hk; omega)).weak fun k _ hk => by have hk : w3.heap.size ≤ k := hk; have := H3.out.1.size; show w.heap.size ≤ k; omega, below_only H4.out.2.1 O8.out (by omega)⟩
  · have hz := (leastC_bit HT.out.2.2 h0).2.2
    obtain ⟨sz, hsz⟩ : ∃ sz, sizeC c = sz := ⟨_, rfl⟩
    rw [hsz] at hz
    have d1 : ((sz : Int) == 0) = false := by simp [hz]
    have HZ := Lib.hid (And.intro h0 hsz)
    clear h0 hz hsz
    go_upto_region 3 with (first
      | (with_reducible refine at_oper (.load 56 (.tmp 1)) rfl ?_
         refine wpList_load_blk rfl 56 (.tmp 1) rfl w.heap.size rfl 56 CC _ H2.out.2.1 Tryz.underlying56 rfl (by rw [zCC]; exact size56) ?_)
      | (go_at_call 51
         rw [← HCC.out.2]
         refine (size_c c w2).mono ?_
         rw [HZ.out.2]
         rintro e w3 ⟨rfl, hb⟩
         have H3 := Lib.hid (show Below w.heap.size w w3 ∧ Blk w3 w.heap.size 56 CC ∧ Blk w3 (w.heap.size + 1) 28 nil28 from ⟨H2.out.1.trans (hb.mono H2.out.1.size), H2.out.2.1.old hb, H2.out.2.2.old hb⟩)
         clear hb))
    have hfD : Array.foldl (fun cs (x : Value × Nat) => cs.setIfInBounds x.snd x.fst) #[Value.int .u64 0, .int .u64 0, .int .u64 0, .int .u64 0] CC.zipIdx 0 4 = CC := by rw [← HCC.out.1]; exact fold_cc c
    have HFD := Lib.hid hfD
    clear hfD H2
    obtain ⟨m, hm⟩ : ∃ m, (cells1 c).length = m := ⟨_, rfl⟩
    have hm2 := cells1_len HZ.out.1
    rw [hm] at hm2
    have HM := Lib.hid hm
    clear hm
    have hb28 := built28s
    go_upto_region 4 with (first
      | (with_reducible refine at_oper (.load 56 (.tmp 1)) rfl ?_
         refine wpList_load_blk rfl 56 (.tmp 1) rfl w.heap.size rfl 56 CC _ H3.out.2.1 Tryz.underlying56 rfl (by rw [zCC]; exact size56) ?_)
      | (go_at_call 74
         rw [HFD.out]
         have hb4 : Below w.heap.size w (w3.alloc (.cells CC 56)) := H3.out.1.alloc H3.out.1.size _
         have hs4 := OwnS.lit (w := w3) (base := w.heap.size) 56 4 1 CC H3.out.1.size (by decide) (by rw [zCC])
         have hr4 := (show OwnS (w3.alloc (.cells CC 56)) w.heap.size 56 4 (some ⟨w3.heap.size, 0, none⟩) 1 1 (ccl [c]) by simpa [ccl, HCC.out.1] using hs4).rc (by decide)
         have hk4 := (H3.out.2.1.alloc (.cells CC 56))
         have hk5 := (H3.out.2.2.alloc (.cells CC 56))
         have hz4 : (w3.alloc (.cells CC 56)).heap.size = w3.heap.size + 1 := by simp
         generalize w3.alloc (.cells CC 56) = w4 at *
         refine (cells1_c _ _ 1 c w4 hr4 HT.out.2.2 HZ.out.1 (HT.out.1.mono HT.out.2.1 hb4) (by omega)).mono ?_
         rw [HM.out]
         rintro e w5 ⟨A, c', rfl, hrc, hb⟩
         have H5 := Lib.hid (show Below w.heap.size w w5 ∧ Blk w5 w.heap.size 56 CC ∧ Blk w5 (w.heap.size + 1) 28 nil28 ∧ RC w5 (fun k => k < w5.heap.size) A m c' (cells1 c) from ⟨hb4.trans (hb.mono hb4.size), hk4.old hb, hk5.old hb, hrc.weak fun k hk _ => hk⟩)
         clear hb4 hs4 hr4 hk4 hk5 hz4 hrc hb))
    clear H3
    go_upto_region 5 with (first
      | (with_reducible refine at_oper (.alloc 28) rfl ?_
         have ha := Blk.new w5 4 #[.bool false, .bool true, .bool false]
         have hb : Below w5.heap.size w5 (w5.alloc (.cells #[.bool false, .bool true, .bool false] 4)) := (Below.refl _ _).alloc (Nat.le_refl _) _
         have hz : (w5.alloc (.cells #[.bool false, .bool true, .bool false] 4)).heap.size = w5.heap.size + 1 := by simp
         generalize w5.alloc (.cells #[.bool false, .bool true, .bool false] 4) = w6 at *
         refine wpList_alloc_rowG (w5.heap.size + 1) hz rfl 28 rfl _ zero28 ?_
         intro w7 k7 b7 s7
         have H7 := Lib.hid (show Below w5.heap.size w5 w7 ∧ Blk w7 w5.heap.size 4 (vbs [false, true, false]) ∧ Blk w7 (w5.heap.size + 1) 28 nil28 ∧ w7.heap.size = w5.heap.size + 1 + 1 from ⟨hb.trans (b7.mono (by omega)), ha.old (hz ▸ b7), k7, s7⟩)
         clear ha hb hz k7 b7 s7)
      | (with_reducible refine at_oper (.store 28 (.tmp 5) (.tmp 21)) rfl ?_
         refine wpList_store_blk rfl 28 (.tmp 5) (.tmp 21) rfl rfl (w5.heap.size + 1) #[.slice A m c', .slice none 0 0, .slice (some ⟨w5.heap.size, 0, none⟩) 3 3] nil28 28 rfl rfl H7.out.2.2.1 size28 rfl (by simp [Value.oneCell']) ?_
         intro w8 k8 o8
         have H8 := Lib.hid (show Below w5.heap.size w5 w8 ∧ Blk w8 w5.heap.size 4 (vbs [false, true, false]) ∧ Blk w8 (w5.heap.size + 1) 28 #[.slice A m c', .slice none 0 0, .slice (some ⟨w5.heap.size, 0, none⟩) 3 3] ∧ w8.heap.size = w5.heap.size + 1 + 1 from
           ⟨below_only H7.out.1 o8 (by omega), H7.out.2.1.only o8 (by omega), k8, by rw [o8.size]; exact H7.out.2.2.2⟩)
         clear k8 o8))
    clear H7
    have HA := Lib.hid H5.out.2.2.2
    have HB8 := Lib.hid (show Below w.heap.size w w8 ∧ Blk w8 w.heap.size 56 CC ∧ Blk w8 (w.heap.size + 1) 28 nil28 from ⟨H5.out.1.trans (H8.out.1.mono H5.out.1.size), H5.out.2.1.old H8.out.1, H5.out.2.2.1.old H8.out.1⟩)
    have h15 := H5.out.2.2.1.lt
    have hsz8 : w8.heap.size = w5.heap.size + 1 + 1 := H8.out.2.2.2
    obtain ⟨ad, rfl, _, _⟩ := H5.out.2.2.2.at_ (k := 0) (by omega)
    have hcap := H5.out.2.2.2.cap
    simp only [Act.put, List.setIfInBounds_toArray, List.set_cons_zero, List.set_cons_succ]
    go_cut [6, 7] from 22 (fun s6 s7 wz => ∃ gs gd, s6 = .slice (some ⟨gs, 0, none⟩) m m ∧ s7 = .slice (some ⟨gd, 0, none⟩) m m ∧ LT_ w wz c (some ad) c' m w5.heap.size (w5.heap.size + 1) gs gd (List.replicate m 0) (List.replicate m 0))
    case first =>
      have key : ∀ gs gd W, Below w8.heap.size w8 W → Blk W gs 3 (List.replicate m (Value.int .i64 0)).toArray → Blk W gd 3 (List.replicate m (Value.int .i64 0)).toArray → w8.heap.size ≤ gs → w8.heap.size ≤ gd → gs ≠ gd →
          LT_ w W c (some ad) c' m w5.heap.size (w5.heap.size + 1) gs gd (List.replicate m 0) (List.replicate m 0) := fun gs gd W hb k1 k2 h1 h2 h3 =>
        ⟨HB8.out.1.trans (hb.mono HB8.out.1.size), (HA.out.below H8.out.1).below hb, by rw [HCC.out.1]; exact HB8.out.2.1.old hb, HB8.out.2.2.old hb, H8.out.2.1.old hb, H8.out.2.2.1.old hb, by rw [via_rep] at k1; exact k1, by rw [via_rep] at k2; exact k2, by omega, by omega, by omega, by omega, h3⟩
      have HK := Lib.hid key
      clear key
      refine wp_region_wf (by kernel_rfl) (.p 0 (.p 1 (.p 3 (.p 4 (.f 2 5 (.p 6 (.c 5 (.c 7 .e))) (.c 2 (.c 6 (.c 7 .e)))))))) 8 (fun _ => True) (by decide +kernel) (fun _ _ d _ _ h => by cases d <;> exact h) trivial ?_
      refine wf_p (by simp only [List.getElem?_toArray, List.getElem?_cons_zero]; rfl) ?_ (fun W => ?_) ?_; rotate_left; (focus (go_simp; first | done | rfl)); simp only [Act.put, List.setIfInBounds_toArray, List.set_cons_zero, List.set_cons_succ]
      refine wf_p (by simp only [List.getElem?_toArray, List.getElem?_cons_succ, List.getElem?_cons_zero]; rfl) ?_ (fun W => ?_) ?_; rotate_left; (focus (go_simp; first | done | rfl)); simp only [Act.put, List.setIfInBounds_toArray, List.set_cons_zero, List.set_cons_succ]
      refine wf_p (by simp only [List.getElem?_toArray, List.getElem?_cons_succ, List.getElem?_cons_zero]; rfl) ?_ (fun W => ?_) ?_; rotate_left; (focus (go_simp; first | done | rfl)); simp only [Act.put, List.setIfInBounds_toArray, List.set_cons_zero, List.set_cons_succ]
      refine wf_p (by simp only [List.getElem?_toArray, List.getElem?_cons_succ, List.getElem?_cons_zero]; rfl) ?_ (fun W => ?_) ?_; rotate_left; (focus (go_simp; first | done | rfl)); simp only [Act.put, List.setIfInBounds_toArray, List.set_cons_zero, List.set_cons_succ]
      generalize hw9 : w8.drew = w9
      have hs9 : w9.heap.size = w8.heap.size := by rw [← hw9]; rfl
      have hb9 : Below w8.heap.size w8 w9 := by rw [← hw9]; exact (Below.refl _ _).drew
      have H9 := Lib.hid hb9
      clear hw9 hb9
      refine wf_f (by simp only [List.getElem?_toArray, List.getElem?_cons_succ, List.getElem?_cons_zero]; rfl) (by simp only [List.getElem?_toArray, List.getElem?_cons_succ, List.getElem?_cons_zero]; rfl) ?_ ?_
      · go_wp2_with (first
          | (with_reducible refine at_oper (.makeSlice 64 (.tmp 23) (.tmp 23)) rfl ?_
             refine wpList_makeFullG w8.heap.size hs9 rfl (.tmp 23) (.tmp 23) 64 rfl (.int .i64 0) Tryz.underlying64 info3 rfl m rfl rfl (by omega) (by omega) ?_
             intro w10 k10 b10 s10))
        dsimp only [segQ]
        first | refine ⟨fun _ _ => trivial, ?_⟩ | skip
        refine wf_p (by simp only [List.getElem?_toArray, List.getElem?_cons_succ, List.getElem?_cons_zero]; rfl) ?_ (fun W => ?_) ?_; rotate_left; (focus (go_simp; first | done | rfl)); simp only [Act.put, List.setIfInBounds_toArray, List.set_cons_zero, List.set_cons_succ]
        refine wf_c (by simp only [List.getElem?_toArray, List.getElem?_cons_succ, List.getElem?_cons_zero]; rfl) ?_
        go_wp2_with (first
          | (with_reducible refine at_oper (.makeSlice 64 (.tmp 26) (.tmp 26)) rfl ?_
             refine wpList_makeFullG (w8.heap.size + 1) s10 rfl (.tmp 26) (.tmp 26) 64 rfl (.int .i64 0) Tryz.underlying64 info3 rfl m rfl rfl (by omega) (by omega) ?_
             intro w11 k11 b11 s11))
        dsimp only [segQ]
        first | refine ⟨fun _ _ => trivial, ?_⟩ | skip
        refine wf_c (by simp only [List.getElem?_toArray, List.getElem?_cons_succ, List.getElem?_cons_zero]; rfl) ?_
        go_wp2_with fail
        dsimp only [segQ]
        first | refine ⟨fun _ _ => trivial, ?_⟩ | skip
        refine wf_e ?_
        have hf := HK.out w8.heap.size (w8.heap.size + 1) w11 ((H9.out.trans (b10.mono (by omega))).trans (b11.mono (by omega))) (k10.old (s10 ▸ b11)) k11 (Nat.le_refl _) (by omega) (by omega)
        clear HK k10 b10 s10 k11 b11 s11
        have HF := Lib.hid hf
        clear hf
        go_wp2_with fail
        go_meet
        case rel => exact ⟨_, _, rfl, rfl, by have h := HF.out; rw [hsz8] at h; exact h⟩
      · go_wp2_with (first
          | (with_reducible refine at_oper (.makeSlice 64 (.tmp 26) (.tmp 26)) rfl ?_
             refine wpList_makeFullG w8.heap.size hs9 rfl (.tmp 26) (.tmp 26) 64 rfl (.int .i64 0) Tryz.underlying64 info3 rfl m rfl rfl (by omega) (by omega) ?_
             intro w10 k10 b10 s10))
        dsimp only [segQ]
        first | refine ⟨fun _ _ => trivial, ?_⟩ | skip
        refine wf_c (by simp only [List.getElem?_toArray, List.getElem?_cons_succ, List.getElem?_cons_zero]; rfl) ?_
        go_wp2_with (first
          | (with_reducible refine at_oper (.makeSlice 64 (.tmp 23) (.tmp 23)) rfl ?_
             refine wpList_makeFullG (w8.heap.size + 1) s10 rfl (.tmp 23) (.tmp 23) 64 rfl (.int .i64 0) Tryz.underlying64 info3 rfl m rfl rfl (by omega) (by omega) ?_
             intro w11 k11 b11 s11))
        dsimp only [segQ]
        first | refine ⟨fun _ _ => trivial, ?_⟩ | skip
        refine wf_c (by simp only [List.getElem?_toArray, List.getElem?_cons_succ, List.getElem?_cons_zero]; rfl) ?_
        go_wp2_with fail
        dsimp only [segQ]
        first | refine ⟨fun _ _ => trivial, ?_⟩ | skip
        refine wf_c (by simp only [List.getElem?_toArray, List.getElem?_cons_succ, List.getElem?_cons_zero]; rfl) ?_
        go_wp2_with fail
        dsimp only [segQ]
        first | refine ⟨fun _ _ => trivial, ?_⟩ | skip
        refine wf_e ?_
        have hf := HK.out (w8.heap.size + 1) w8.heap.size w11 ((H9.out.trans (b10.mono (by omega))).trans (b11.mono (by omega))) k11 (k10.old (s10 ▸ b11)) (by omega) (Nat.le_refl _) (by omega)
        clear HK k10 b10 s10 k11 b11 s11
        have HF := Lib.hid hf
        clear hf
        go_wp2_with fail
        go_meet
        case rel => exact ⟨_, _, rfl, rfl, by have h := HF.out; rw [hsz8] at h; exact h⟩
    case rest =>
      obtain ⟨gs, gd, rfl, rfl, hL⟩ := hcut
      have HL := Lib.hid hL
      obtain ⟨SS, hSS⟩ : ∃ SS, (cells1 c).map (fun k => if c.testBit (leastC k) then 1 else 2) = SS := ⟨_, rfl⟩
      obtain ⟨DS, hDS⟩ : ∃ DS, (cells1 c).map (fun _ => 2) = DS := ⟨_, rfl⟩
      have hSl : SS.length = m := by rw [← hSS, List.length_map]; exact HM.out
      have hDl : DS.length = m := by rw [← hDS, List.length_map]; exact HM.out
      have HS := Lib.hid (And.intro hSS (And.intro hDS (And.intro hSl hDl)))
      clear hL hSS hDS hSl hDl hsz8 H8 HA HB8 h15
      generalize w5.heap.size = ga at *
      go_wp2_with fail
      go_loopw [30] (fun s30 wr => ∃ k : Nat, k ≤ m ∧ s30 = vi k ∧ LT_ w wr c (some ad) c' m ga (ga + 1) gs gd (SS.take k ++ List.replicate (m - k) 0) (DS.take k ++ List.replicate (m - k) 0)) (fun s30 _ => m - (intOf s30).toNat)
      case atStart => exact ⟨0, Nat.zero_le _, rfl, by simpa using HL.out⟩
      case round =>
        clear HL
        obtain ⟨k, hk, rfl, hL⟩ := hrel
        have HL := Lib.hid hL
        clear hL
        by_cases hlt : k < m
        · have d2 : decide ((k : Int) < m) = true := by simp; omega
          obtain ⟨ad', e', _, hq⟩ := HL.out.rc.at_ hlt
          cases e'
          obtain ⟨x, hx⟩ : ∃ x, (cells1 c).getD k 0 = x := ⟨_, rfl⟩
          rw [hx] at hq
          have hmem : x ∈ cells1 c := by rw [← hx]; exact getD_mem' (by rw [HM.out]; exact hlt)
          have hxne := (letters0_vd HT.out.2.2 HZ.out.1).ne x hmem
          have hlx := leastC_bit hxne.2 hxne.1
          obtain ⟨b, hb⟩ : ∃ b, leastC x = b := ⟨_, rfl⟩
          rw [hb] at hlx
          have hSk : SS.getD k 0 = if c.testBit b then 1 else 2 := by
            rw [← HS.out.1, List.getD_eq_getElem?_getD, List.getElem?_map]
            have h1 : (cells1 c)[k]? = some x := by
              rw [← hx, List.getD_eq_getElem?_getD, List.getElem?_eq_getElem (by rw [HM.out]; exact hlt)]; rfl
            rw [h1, ← hb]; rfl
          have hDk : DS.getD k 0 = 2 := by
            rw [← HS.out.2.1, List.getD_eq_getElem?_getD, List.getElem?_map, List.getElem?_eq_getElem (by rw [HM.out]; exact hlt)]; rfl
          have HX := Lib.hid (And.intro hq (And.intro hlx (And.intro hSk hDk)))
          have hb256 : b < 256 := hlx.2.1
          clear hq hx hmem hxne hlx hb hSk hDk
          obtain ⟨XC, hXC⟩ : ∃ XC, ccells x = XC := ⟨_, rfl⟩
          have zXC : XC.size = 4 := by rw [← hXC]; rfl
          have HXC := Lib.hid (And.intro hXC (show encC x = .agg XC by rw [← hXC]; rfl))
          clear hXC
          go_upto_region 10 with (first
            | (with_reducible refine at_oper (.load 56 (.tmp 33)) rfl ?_
               refine wpList_load_class rfl (.tmp 33) rfl _ rfl x HX.out.1 ?_
               rw [HXC.out.1])
            | (with_reducible refine at_oper (.alloc 56) rfl ?_
               refine wpList_alloc_rowG wr.heap.size rfl rfl 56 rfl _ zero56 ?_
               intro w12 k12 b12 s12
               have H12 := Lib.hid (show LT_ w w12 c (some ad) c' m ga (ga + 1) gs gd (SS.take k ++ List.replicate (m - k) 0) (DS.take k ++ List.replicate (m - k) 0) ∧ Blk w12 wr.heap.size 56 _ from ⟨HL.out.step b12, k12⟩)
               clear k12 b12 s12)
            | (with_reducible refine at_oper (.store 56 (.tmp 9) (.tmp 34)) rfl ?_
               refine wpList_store_blk rfl 56 (.tmp 9) (.tmp 34) rfl rfl wr.heap.size XC _ 56 rfl rfl H12.out.2 (by rw [zXC]; exact size56) (by rw [zXC]; rfl) (by rw [← HXC.out.1]; exact one56 x) ?_
               intro w13 k13 o13
               have hq1 := HL.out.box.lt
               have hq2 := HL.out.ret.lt
               have hq3 := HL.out.acc.lt
               have hq4 := HL.out.d.lt
               have hq5 := HL.out.st.lt
               have hq6 := HL.out.dd.lt
               have H13 := Lib.hid (show LT_ w w13 c (some ad) c' m ga (ga + 1) gs gd (SS.take k ++ List.replicate (m - k) 0) (DS.take k ++ List.replicate (m - k) 0) ∧ Blk w13 wr.heap.size 56 XC from
                 ⟨⟨below_only H12.out.1.below o13 (by omega), H12.out.1.rc.old fun k hk _ => o13.block k (by have hk : k < ga := hk; omega), H12.out.1.box.only o13 (by omega), H12.out.1.ret.only o13 (by omega), H12.out.1.acc.only o13 (by omega), H12.out.1.d.only o13 (by omega), H12.out.1.st.only o13 (by omega), H12.out.1.dd.only o13 (by omega), HL.out.o1, HL.out.o2, HL.out.o3, HL.out.o4, HL.out.o5⟩, k13⟩)
               clear k13 o13 hq1 hq2 hq3 hq4 hq5 hq6)
            | (with_reducible refine at_oper (.store 3 (.tmp 39) _) rfl ?_
               refine wpList_store_at rfl 3 (.tmp 39) _ rfl rfl gs k (vi 2) _ 3 rfl rfl H13.out.1.st (by rw [via_size, List.length_append, List.length_take, List.length_replicate, HS.out.2.2.1]; omega) size3 rfl ?_
               intro w14 k14 o14
               rw [via_set] at k14
               have hq5 := HL.out.st.lt
               have H14 := Lib.hid (show LT_ w w14 c (some ad) c' m ga (ga + 1) gs gd ((SS.take k ++ List.replicate (m - k) 0).set k 2) (DS.take k ++ List.replicate (m - k) 0) ∧ Blk w14 wr.heap.size 56 XC from ⟨H13.out.1.sets k14 o14, H13.out.2.only o14 (by omega)⟩)
               clear k14 o14 hq5)
            | (with_reducible refine at_oper (.store 3 (.tmp 40) _) rfl ?_
               refine wpList_store_at rfl 3 (.tmp 40) _ rfl rfl gd k (vi 2) _ 3 rfl rfl H14.out.1.dd (by rw [via_size, List.length_append, List.length_take, List.length_replicate, HS.out.2.2.2]; omega) size3 rfl ?_
               intro w15 k15 o15
               rw [via_set, mid_set DS k m 2 hlt HS.out.2.2.2 HX.out.2.2.2] at k15
               have hq5 := HL.out.dd.lt
               have H15 := Lib.hid (show LT_ w w15 c (some ad) c' m ga (ga + 1) gs gd ((SS.take k ++ List.replicate (m - k) 0).set k 2) (DS.take (k + 1) ++ List.replicate (m - (k + 1)) 0) ∧ Blk w15 wr.heap.size 56 XC from ⟨H14.out.1.setd k15 o15, H14.out.2.only o15 (by omega)⟩)
               clear k15 o15 hq5))
          clear HL H12 H13 H14
          generalize wr.heap.size = gx at *
          have hld : LT_ w w15.drew c (some ad) c' m ga (ga + 1) gs gd ((SS.take k ++ List.replicate (m - k) 0).set k 2) (DS.take (k + 1) ++ List.replicate (m - (k + 1)) 0) ∧ Blk w15.drew gx 56 XC := ⟨H15.out.1.step (Below.refl _ _).drew, H15.out.2⟩
          have H16 := Lib.hid hld
          clear hld
          refine wp_region_wz (by kernel_rfl) [(0, .r), (1, .r), (2, .c), (3, .c), (4, .c)] 4 (fun W => Blk W w.heap.size 56 CC ∧ Blk W gx 56 XC) (by decide +kernel) (fun _ _ d _ _ h => by cases d <;> exact h) ⟨by rw [← HCC.out.1]; exact H16.out.1.box, H16.out.2⟩ ?_
          have hT16 := HT.out.1.mono HT.out.2.1 H16.out.1.below
          have hs16 := H16.out.1.box.lt
          generalize w15.drew = w16 at *
          refine wz_r (by simp only [List.getElem?_toArray, List.getElem?_cons_zero]; rfl) (encC c) (fun W hS => by
            rw [HCC.out.2]
            exact run_load_blk 56 (.tmp 1) rfl w.heap.size rfl 56 CC _ hS.1 Tryz.underlying56 rfl (by rw [zCC]; exact size56)) ?_
          simp only [Act.put, List.setIfInBounds_toArray, List.set_cons_zero, List.set_cons_succ]
          refine wz_r (by simp only [List.getElem?_toArray, List.getElem?_cons_succ, List.getElem?_cons_zero]; rfl) (encC x) (fun W hS => by
            rw [HXC.out.2]
            exact run_load_blk 56 (.tmp 9) rfl gx rfl 56 XC _ hS.2 Tryz.underlying56 rfl (by rw [zXC]; exact size56)) ?_
          simp only [Act.put, List.setIfInBounds_toArray, List.set_cons_zero, List.set_cons_succ]
          refine wz_c (by simp only [List.getElem?_toArray, List.getElem?_cons_succ, List.getElem?_cons_zero]; rfl) ?_
          have hls := least_c x w16 hT16 (by omega)
          rw [HX.out.2.1.1] at hls
          have HLS := Lib.hid hls
          clear hls hT16 hs16
          go_wp2_with (first
            | (go_at_call 77
               refine HLS.out.mono ?_
               rintro e w17 ⟨rfl, hb17⟩
               have H17 := Lib.hid (show LT_ w w17 c (some ad) c' m ga (ga + 1) gs gd ((SS.take k ++ List.replicate (m - k) 0).set k 2) (DS.take (k + 1) ++ List.replicate (m - (k + 1)) 0) ∧ Blk w17 gx 56 XC from ⟨H16.out.1.step hb17, H16.out.2.old hb17⟩)
               clear hb17))
          dsimp only [segQ]
          first | refine ⟨fun _ hS => ⟨by rw [← HCC.out.1]; exact H17.out.1.box, H17.out.2⟩, ?_⟩ | skip
          refine wz_c (by simp only [List.getElem?_toArray, List.getElem?_cons_succ, List.getElem?_cons_zero]; rfl) ?_
          have hwb : IntKind.u8.wrap (b : Int) = (b : Int) := by rw [IntKind.wrap_u8]; omega
          go_wp2_with fail
          dsimp only [segQ]
          first | refine ⟨fun _ hS => ⟨by rw [← HCC.out.1]; exact H17.out.1.box, H17.out.2⟩, ?_⟩ | skip
          refine wz_c (by simp only [List.getElem?_toArray, List.getElem?_cons_succ, List.getElem?_cons_zero]; rfl) ?_
          obtain ⟨tb, htb⟩ : ∃ tb, c.testBit b = tb := ⟨_, rfl⟩
          have hSk := HX.out.2.2.1
          rw [htb] at hSk
          have hhs := has_c c b hb256 w17
          rw [htb] at hhs
          have HHS := Lib.hid (And.intro hhs hSk)
          clear htb hhs hSk H15 H16 HLS
          cases tb with
          | true =>
            go_wp2_with (first
              | (go_at_call 76
                 refine HHS.out.1.mono ?_
                 rintro e w18 ⟨rfl, hb18⟩
                 have H18 := Lib.hid (H17.out.1.step hb18)
                 clear hb18))
            dsimp only [segQ]
            first | refine ⟨fun h => absurd h (by decide), ?_⟩ | skip
            refine wz_e ?_
            go_wp2_with (first
              | (with_reducible refine at_oper (.store 3 (.tmp 48) _) rfl ?_
                 refine wpList_store_at rfl 3 (.tmp 48) _ rfl rfl gs k (vi 1) _ 3 rfl rfl H18.out.st (by rw [via_size, List.length_set, List.length_append, List.length_take, List.length_replicate, HS.out.2.2.1]; omega) size3 rfl ?_
                 intro w19 k19 o19
                 rw [via_set, List.set_set, mid_set SS k m 1 hlt HS.out.2.2.1 HHS.out.2] at k19
                 have H19 := Lib.hid (H18.out.sets k19 o19)
                 clear k19 o19))
            go_roundw
            case rel => exact ⟨k + 1, by omega, by go_num, H19.out⟩
            case measure => simp [intOf]; omega
          | false =>
            go_wp2_with (first
              | (go_at_call 76
                 refine HHS.out.1.mono ?_
                 rintro e w18 ⟨rfl, hb18⟩
                 have H18 := Lib.hid (H17.out.1.step hb18)
                 clear hb18))
            dsimp only [segQ]
            first | refine ⟨fun h => absurd h (by decide), ?_⟩ | skip
            refine wz_e ?_
            go_wp2_with fail
            go_roundw
            case rel =>
              have h := H18.out
              rw [mid_set SS k m 2 hlt HS.out.2.2.1 HHS.out.2] at h
              exact ⟨k + 1, by omega, by go_num, h⟩
            case measure => simp [intOf]; omega
        · have d2 : decide ((k : Int) < m) = false := by simp; omega
          have hL := HL.out
          rw [show k = m by omega, List.take_of_length_le (by rw [HS.out.2.2.1]; exact Nat.le_refl _), List.take_of_length_le (by rw [HS.out.2.2.2]; exact Nat.le_refl _), Nat.sub_self, List.replicate_zero, List.append_nil, List.append_nil] at hL
          have HL2 := Lib.hid hL
          clear hL HL
          have hmb : ∀ x ∈ DS, x < 9223372036854775808 := fun x hx => by
            rw [← HS.out.2.1] at hx
            obtain ⟨y, _, rfl⟩ := List.mem_map.1 hx
            decide
          have hmb2 : ∀ x ∈ SS, x < 9223372036854775808 := fun x hx => by
            rw [← HS.out.1] at hx
            obtain ⟨y, _, rfl⟩ := List.mem_map.1 hx
            split <;> decide
          have hrd : RN wr (fun k => k = gd) (some ⟨gd, 0, none⟩) m m DS := HL2.out.dd.rn HS.out.2.2.2 (by omega) hmb
          have hrs : RN wr (fun k => k = gs) (some ⟨gs, 0, none⟩) m m SS := HL2.out.st.rn HS.out.2.2.1 (by omega) hmb2
          have HRD := Lib.hid (And.intro hrd hrs)
          clear hmb hmb2 hrd hrs
          go_upto_region 14 with (first
            | (go_at_call 78
               refine (clone64_c _ _ m m DS wr HRD.out.1).mono ?_
               rintro e w18 ⟨A2, c2, rfl, hr2, hb18⟩
               have H18 := Lib.hid (And.intro (HL2.out.step hb18) (And.intro (HRD.out.1.below hb18) (And.intro (HRD.out.2.below hb18) hr2)))
               clear hr2 hb18)
            | (with_reducible refine at_oper (.store 25 (.tmp 55) (.tmp 54)) rfl ?_
               have kA := Blk.new w18 64 #[.slice (some ⟨gs, 0, none⟩) m m, .slice (some ⟨gd, 0, none⟩) m m, .slice A2 m c2]
               have bA : Below w18.heap.size w18 (w18.alloc (.cells #[.slice (some ⟨gs, 0, none⟩) m m, .slice (some ⟨gd, 0, none⟩) m m, .slice A2 m c2] 64)) := (Below.refl _ _).alloc (Nat.le_refl _) _
               generalize w18.alloc (.cells #[.slice (some ⟨gs, 0, none⟩) m m, .slice (some ⟨gd, 0, none⟩) m m, .slice A2 m c2] 64) = w19 at *
               refine wpList_store_at rfl 25 (.tmp 55) (.tmp 54) rfl rfl (ga + 1) 1 (.slice (some ⟨w18.heap.size, 0, none⟩) 3 3) _ 28 rfl rfl (H18.out.1.d.old bA) (by simp) size25 rfl ?_
               intro w20 k20 o20
               have hq1 := H18.out.1.d.lt
               have hq2 := HL2.out.d.lt
               have hq3 := H18.out.1.o3
               have hq4 := H18.out.1.o4
               have hq5 := H18.out.1.o1
               have hL20 : Below w.heap.size w w20 ∧ Blk w20 (w.heap.size + 1) 28 nil28 ∧ RC w20 TT (some ad) m c' (cells1 c) ∧ Blk w20 ga 4 (vbs [false, true, false]) ∧ Blk w20 (ga + 1) 28 #[.slice (some ad) m c', .slice (some ⟨w18.heap.size, 0, none⟩) 3 3, .slice (some ⟨ga, 0, none⟩) 3 3] ∧ Blk w20 w18.heap.size 64 #[.slice (some ⟨gs, 0, none⟩) m m, .slice (some ⟨gd, 0, none⟩) m m, .slice A2 m c2] ∧ RN w20 TT (some ⟨gd, 0, none⟩) m m DS ∧ RN w20 TT (some ⟨gs, 0, none⟩) m m SS ∧ RN w20 TT A2 m c2 DS :=
                 ⟨below_only (H18.out.1.below.trans (bA.mono H18.out.1.below.size)) o20 (by omega), (H18.out.1.ret.old bA).only o20 (by omega), ((H18.out.1.rc.below bA).old fun k hk _ => o20.block k (by have hk : k < ga := hk; omega)).weak fun _ _ _ => trivial,
                  (H18.out.1.acc.old bA).only o20 (by omega), k20, kA.only o20 (by omega), ((H18.out.2.1.below bA).old fun k hk _ => o20.block k (by have hk : k = gd := hk; omega)).weak fun _ _ _ => trivial,
                  ((H18.out.2.2.1.below bA).old fun k hk _ => o20.block k (by have hk : k = gs := hk; omega)).weak fun _ _ _ => trivial, ((H18.out.2.2.2.below bA).old fun k hk _ => o20.block k (by have hk : wr.heap.size ≤ k := hk; omega)).weak fun _ _ _ => trivial⟩
               have H20 := Lib.hid hL20
               clear kA bA k20 o20 hq1 hq2 hq3 hq4 hq5 hL20))
          generalize w18.heap.size = g18 at *
          have hrd : RD w20 TT (.agg #[.slice (some ad) m c', .slice (some ⟨g18, 0, none⟩) 3 3, .slice (some ⟨ga, 0, none⟩) 3 3]) (letters0 c) := by
            have hm := HM.out
            have e : letters0 c = ⟨cells1 c, [SS, DS, DS], [false, true, false]⟩ := by unfold letters0; rw [HS.out.1, HS.out.2.1]
            rw [e]
            have hrr : RR w20 TT (some ⟨g18, 0, none⟩) 3 3 [SS, DS, DS] := rr_of_blk (us := [.slice (some ⟨gs, 0, none⟩) m m, .slice (some ⟨gd, 0, none⟩) m m, .slice A2 m c2]) (ls := [SS, DS, DS]) H20.out.2.2.2.2.2.1 trivial rfl (by simp) (fun j u hu => by
              have h1 := HS.out.2.2.1
              have h2 := HS.out.2.2.2
              rcases j with _ | _ | _ | j
              · cases hu
                exact ⟨_, m, by rw [show [SS, DS, DS].getD 0 [] = SS from rfl, h1], by rw [show [SS, DS, DS].getD 0 [] = SS from rfl, h1]; exact H20.out.2.2.2.2.2.2.2.1⟩
              · cases hu
                exact ⟨_, m, by rw [show [SS, DS, DS].getD 1 [] = DS from rfl, h2], by rw [show [SS, DS, DS].getD 1 [] = DS from rfl, h2]; exact H20.out.2.2.2.2.2.2.1⟩
              · cases hu
                exact ⟨_, c2, by rw [show [SS, DS, DS].getD 2 [] = DS from rfl, h2], by rw [show [SS, DS, DS].getD 2 [] = DS from rfl, h2]; exact H20.out.2.2.2.2.2.2.2.2⟩
              · simp at hu)
            refine ⟨some ad, some ⟨g18, 0, none⟩, some ⟨ga, 0, none⟩, c', 3, 3, ?_, ?_, hrr, rl_of_blk (bs := [false, true, false]) H20.out.2.2.2.1 trivial (by decide)⟩
            · unfold dfaV
              rw [hm]
              rfl
            · show RC w20 TT (some ad) (cells1 c).length c' (cells1 c)
              rw [hm]
              exact H20.out.2.2.1
          have HRD2 := Lib.hid hrd
          clear hrd H18 HL2 HRD
          have HRR := Lib.hid (show (canonical (tableOf (letters0 c)), 0) = R by rw [← lettersD_eq HZ.out.1]; exact HR.out)
          go_wp2_with (first
            | (with_reducible refine at_oper (.load 28 (.tmp 5)) rfl ?_
               refine wpList_load_blk rfl 28 (.tmp 5) rfl (ga + 1) rfl 28 _ _ H20.out.2.2.2.2.1 Tryz.underlying28 rfl size28 ?_)
            | (go_at_call 73
               refine (canon_c _ _ (letters0 c) w20 HRD2.out (letters0_vd HT.out.2.2 HZ.out.1) (HT.out.1.mono HT.out.2.1 H20.out.1) (by have := H20.out.2.1.lt; omega)).mono ?_
               rintro e w21 ⟨u, rfl, hrd5, hb5⟩
               obtain ⟨cs, rfl, zcs, ocs⟩ := hrd5.cells
               have H21 := Lib.hid (And.intro hrd5 (And.intro (H20.out.1.trans (hb5.mono H20.out.1.size)) (H20.out.2.1.old hb5)))
               clear hrd5 hb5)
            | (with_reducible refine at_oper (.store 28 (.tmp 2) (.tmp 58)) rfl ?_
               refine wpList_store_blk rfl 28 (.tmp 2) (.tmp 58) rfl rfl (w.heap.size + 1) cs nil28 28 rfl rfl H21.out.2.2 (by rw [zcs]; exact size28) (by rw [zcs]; rfl) ocs ?_
               intro w22 k22 o22
               have H22 := Lib.hid (And.intro k22 o22)
               clear k22 o22))
          refine bodyPost_ret (results_ct rfl _ _ _ rfl (w.heap.size + 1) rfl 28 _ H22.out.1 Tryz.underlying28 rfl (by rw [zcs]; exact size28)) rfl ?_
          have hz := H20.out.2.1.lt
          rw [← HRR.out]
          exact ⟨.agg cs, rfl, (H21.out.1.old fun k hk _ => H22.out.2.block k (by have h : w20.heap.size ≤ k := hk; omega)).weak (fun k _ hk => by have h : w20.heap.size ≤ k := hk; show w.heap.size ≤ k; omega), below_only H21.out.2.1 H22.out.2 (by omega)⟩
end Go.Proofs.YtjgkdfghjeodeaaGreatDoor
