/- Walks of the program's tests by closures: within, Valid, Holds. -/
import Derived.Test.YtekbkdbmkjdgbaaW1
namespace Go.Proofs.Ytekbkdbmkjdgbaa
open Go.RowKit

/-- the closure of within: the literal is outside -/
theorem out_c (g : Nat) (l n : Int) (w : World) (h : Blk w g 3 #[.int .i64 n]) (hn : 0 ≤ n ∧ n ≤ 16) :
    Calls Try.prog 62 #[.int .i64 l, .pointer (some ⟨g, 0, none⟩)] w fun e w' => e = .returned (.bool (!wi n l)) ∧ w = w' := by
  obtain ⟨h1, h2⟩ := hn
  have c1 : w.cell? ⟨g, 0, none⟩ = some (.int .i64 n) := h.cell 0
  have H := Lib.hid (show wi n l = (decide (l ≠ 0) && (decide (l ≤ n) && decide (-n ≤ l))) from rfl)
  clear h
  generalize wi n l = b at *
  by_cases h0 : l = 0
  · subst h0
    go_enter Try.func62, Try.ntmps62
    go_wp2
    go_ret
    exact ⟨ret_bool (by rw [H.out]; rfl), rfl⟩
  · have b0 : (l == 0) = false := by simp [h0]
    by_cases hgt : n < l
    · go_enter Try.func62, Try.ntmps62
      go_wp2
      go_ret
      exact ⟨ret_bool (by rw [H.out]; simp [h0]; omega), rfl⟩
    · have b1 : decide (n < l) = false := by simpa using hgt
      go_enter Try.func62, Try.ntmps62
      go_wp2
      go_ret
      have e1 : decide (l ≤ n) = true := by simp; omega
      refine ⟨ret_bool ?_, rfl⟩
      rw [H.out, e1, decide_eq_true h0]
      show decide (l < -n) = !(true && (true && decide (-n ≤ l)))
      by_cases h3 : l < -n
      · rw [decide_eq_true h3, decide_eq_false (by omega)]; rfl
      · rw [decide_eq_false h3, decide_eq_true (by omega)]; rfl

def FuncPost (b : Bool) (w : World) (e : Ending) (w' : World) : Prop := ∃ r : Int, e = .returned (.int .i64 r) ∧ decide (0 ≤ r) = b ∧ Below w.heap.size w w'

/-- 'slices.IndexFunc' over the closure of within. -/
theorem indexOut_c (K : Nat → Prop) (A : Option Addr) (n c : Nat) (l : List Int) (g : Nat) (m : Int) (w : World) (h : R1 w K A n c l) (hg : Blk w g 3 #[.int .i64 m]) (hm : 0 ≤ m ∧ m ≤ 16) :
    Calls Try.prog 63 #[.slice A n c, .func (.func 62) #[] #[.pointer (some ⟨g, 0, none⟩)]] w (IdxPost (l.any fun x => !wi m x) w) := by
  have hbig := h.big
  have hcap := h.cap
  have HG := Lib.hid hg
  clear hg
  go_enter Try.func63, Try.ntmps63
  go_wp2
  go_loop [8] (fun i => ∃ k : Nat, k ≤ n ∧ i = .int .i64 k ∧ (l.take k).any (fun x => !wi m x) = false) (fun i => n - (intOf i).toNat)
  case atStart => exact ⟨0, Nat.zero_le _, rfl, by simp⟩
  case round =>
    obtain ⟨k, hk, rfl, hnt⟩ := hrel
    have H := Lib.hid hnt
    clear hnt
    by_cases hlt : k < n
    · obtain ⟨ad, x, rfl, _, hx, hw, hcell⟩ := h.at_ hlt
      obtain ⟨hw1, hw2⟩ := hw
      have HX := Lib.hid (take_snoc_of hx)
      have Hx := Lib.hid hx
      have HC := Lib.hid (out_c g x m w HG.out hm)
      clear hx h
      cases hb : wi m x
      · rw [hb] at HC
        have HB := Lib.hid hb
        clear hb
        go_wp2_with (go_at_call 62; refine HC.out.mono ?_; rintro e w' ⟨rfl, rfl⟩)
        go_ret
        exact ⟨k, rfl, by
          have : (l.any fun x => !wi m x) = true := by rw [List.any_eq_true]; exact ⟨x, List.mem_of_getElem? Hx.out, by rw [HB.out]; rfl⟩
          rw [this]; simp, rfl⟩
      · rw [hb] at HC
        have HB := Lib.hid hb
        clear hb
        go_wp2_with (go_at_call 62; refine HC.out.mono ?_; rintro e w' ⟨rfl, rfl⟩)
        go_round
        case rel =>
          refine ⟨k + 1, by omega, by go_num, ?_⟩
          rw [HX.out, List.any_append, H.out]
          simp [HB.out]
        case measure => simp [intOf]; omega
    · go_wp2
      go_ret
      have hl := h.len
      have := H.out
      rw [List.take_of_length_le (by omega)] at this
      exact ⟨-1, rfl, by rw [this]; rfl, rfl⟩

/-- 'slices.ContainsFunc' over the closure of within. -/
theorem containsOut_c (K : Nat → Prop) (A : Option Addr) (n c : Nat) (l : List Int) (g : Nat) (m : Int) (w : World) (h : R1 w K A n c l) (hg : Blk w g 3 #[.int .i64 m]) (hm : 0 ≤ m ∧ m ≤ 16) :
    Calls Try.prog 47 #[.slice A n c, .func (.func 62) #[] #[.pointer (some ⟨g, 0, none⟩)]] w fun e w' => e = .returned (.bool (!l.all (wi m))) ∧ w = w' := by
  have HC := Lib.hid (indexOut_c K A n c l g m w h hg hm)
  have HE := Lib.hid (show (l.any fun x => !wi m x) = !l.all (wi m) from List.not_all_eq_any_not.symm)
  rw [HE.out] at HC
  clear h hg hm HE
  generalize (!l.all (wi m)) = b at *
  go_enter Try.func47, Try.ntmps47
  go_wp2_with (go_at_call 63; refine HC.out.mono ?_; rintro e w' ⟨r, rfl, hb, rfl⟩; have Hb := Lib.hid hb; clear hb)
  go_ret
  exact ⟨ret_bool Hb.out, rfl⟩

/-- 'within'. -/
theorem within_c (K : Nat → Prop) (A : Option Addr) (n c : Nat) (l : List Int) (m : Int) (w : World) (h : R1 w K A n c l) (hm : 0 ≤ m ∧ m ≤ 16) :
    Calls Try.prog 43 #[.slice A n c, .int .i64 m] w (Gives w (.bool (l.all (wi m)))) := by
  have hb := (Below.refl w.heap.size w).alloc (Nat.le_refl _) (.cells #[.int .i64 m] 3)
  have HC := Lib.hid (containsOut_c K A n c l w.heap.size m _ (h.below hb) (Blk.new w 3 #[.int .i64 m]) hm)
  have HB := Lib.hid hb
  clear h hm hb
  generalize l.all (wi m) = b at *
  go_enter Try.func43, Try.ntmps43
  go_wp2_with (go_at_call 47; refine HC.out.mono ?_; rintro e w' ⟨rfl, rfl⟩)
  go_ret
  exact ⟨ret_bool (by cases b <;> rfl), HB.out⟩

/-- the closure of Valid: the clause is not valid -/
theorem bad_c (K : Nat → Prop) (A : Option Addr) (n c : Nat) (l : List Int) (g : Nat) (m : Int) (w : World) (h : R1 w K A n c l) (hg : Blk w g 3 #[.int .i64 m]) (hm : 0 ≤ m ∧ m ≤ 16) :
    Calls Try.prog 42 #[.slice A n c, .pointer (some ⟨g, 0, none⟩)] w (Gives w (.bool (!okC m l))) := by
  have hb1 := h.big
  have hb2 := h.cap
  have HL := Lib.hid h.len
  have c1 : w.cell? ⟨g, 0, none⟩ = some (.int .i64 m) := hg.cell 0
  have HC := Lib.hid (within_c K A n c l m w h hm)
  clear h hg hm
  have HE := Lib.hid (show okC m l = (decide (l.length ≤ 8) && l.all (wi m)) from rfl)
  generalize okC m l = b at *
  generalize l.all (wi m) = b' at *
  by_cases h8 : 8 < n
  · have d8 : decide (8 < n) = true := by simpa using h8
    have d9 : decide (8 < (n : Int)) = true := by simp; omega
    go_enter Try.func42, Try.ntmps42
    go_wp2
    go_ret
    exact ⟨ret_bool (by rw [HE.out, HL.out, decide_eq_false (by omega)]; rfl), Below.refl _ _⟩
  · have d8 : decide (8 < n) = false := by simpa using h8
    have d9 : decide (8 < (n : Int)) = false := by simp; omega
    go_enter Try.func42, Try.ntmps42
    go_wp2_with (go_at_call 43; refine HC.out.mono ?_; rintro e w' ⟨rfl, hb⟩; have HB := Lib.hid hb; clear hb)
    go_ret
    exact ⟨ret_bool (by rw [HE.out, HL.out, decide_eq_true (p := n ≤ 8) (by omega)]; rfl), HB.out⟩

/-- 'slices.IndexFunc' over the closure of Valid. -/
theorem indexBad_c (K : Nat → Prop) (A : Option Addr) (n c : Nat) (f : List (List Int)) (g : Nat) (m : Int) (w : World) (h : R2 w K A n c f) (hg : Blk w g 3 #[.int .i64 m]) (hm : 0 ≤ m ∧ m ≤ 16) :
    Calls Try.prog 61 #[.slice A n c, .func (.func 42) #[] #[.pointer (some ⟨g, 0, none⟩)]] w (FuncPost (f.any fun x => !okC m x) w) := by
  have hbig := h.big
  have hcap := h.cap
  have HG := Lib.hid hg
  clear hg
  go_enter Try.func61, Try.ntmps61
  go_wp2
  go_loopw [8] (fun i wr => ∃ k : Nat, k ≤ n ∧ i = .int .i64 k ∧ Below w.heap.size w wr ∧ (f.take k).any (fun x => !okC m x) = false) (fun i _ => n - (intOf i).toNat)
  case atStart => exact ⟨0, Nat.zero_le _, rfl, Below.refl _ _, by simp⟩
  case round =>
    obtain ⟨k, hk, rfl, hb, hnt⟩ := hrel
    have H := Lib.hid hnt
    have HB := Lib.hid hb
    clear hnt hb
    by_cases hlt : k < n
    · obtain ⟨ad, x, A1, n1, c1, rfl, _, hx, hcell, h1⟩ := (h.below HB.out).at_ hlt
      have HX := Lib.hid (take_snoc_of hx)
      have Hx := Lib.hid hx
      have HC := Lib.hid (bad_c K A1 n1 c1 x g m wr h1 (HG.out.old HB.out) hm)
      clear hx h h1
      cases hb : okC m x
      · rw [hb] at HC
        have HK := Lib.hid hb
        clear hb
        go_wp2_with (go_at_call 42; refine HC.out.mono ?_; rintro e w' ⟨rfl, hb⟩; have HB1 := Lib.hid hb; clear hb)
        go_ret
        exact ⟨k, rfl, by
          have : (f.any fun x => !okC m x) = true := by rw [List.any_eq_true]; exact ⟨x, List.mem_of_getElem? Hx.out, by rw [HK.out]; rfl⟩
          rw [this]; simp, HB.out.trans (HB1.out.mono HB.out.size)⟩
      · rw [hb] at HC
        have HK := Lib.hid hb
        clear hb
        go_wp2_with (go_at_call 42; refine HC.out.mono ?_; rintro e w' ⟨rfl, hb⟩; have HB1 := Lib.hid hb; clear hb)
        go_roundw
        case rel =>
          refine ⟨k + 1, by omega, by go_num, HB.out.trans (HB1.out.mono HB.out.size), ?_⟩
          rw [HX.out, List.any_append, H.out]
          simp [HK.out]
        case measure => simp [intOf]; omega
    · go_wp2
      go_ret
      have hl := h.len
      have := H.out
      rw [List.take_of_length_le (by omega)] at this
      exact ⟨-1, rfl, by rw [this]; rfl, HB.out⟩

/-- 'slices.ContainsFunc' over the closure of Valid. -/
theorem containsBad_c (K : Nat → Prop) (A : Option Addr) (n c : Nat) (f : List (List Int)) (g : Nat) (m : Int) (w : World) (h : R2 w K A n c f) (hg : Blk w g 3 #[.int .i64 m]) (hm : 0 ≤ m ∧ m ≤ 16) :
    Calls Try.prog 41 #[.slice A n c, .func (.func 42) #[] #[.pointer (some ⟨g, 0, none⟩)]] w (Gives w (.bool (!f.all (okC m)))) := by
  have HC := Lib.hid (indexBad_c K A n c f g m w h hg hm)
  have HE := Lib.hid (show (f.any fun x => !okC m x) = !f.all (okC m) from List.not_all_eq_any_not.symm)
  rw [HE.out] at HC
  clear h hg hm HE
  generalize (!f.all (okC m)) = b at *
  go_enter Try.func41, Try.ntmps41
  go_wp2_with (go_at_call 61; refine HC.out.mono ?_; rintro e w' ⟨r, rfl, hb, hb2⟩; have Hb := Lib.hid hb; have HB := Lib.hid hb2; clear hb hb2)
  go_ret
  exact ⟨ret_bool Hb.out, HB.out⟩

/-- 'Valid'. -/
theorem valid_c (K : Nat → Prop) (A : Option Addr) (n c : Nat) (f : List (List Int)) (m : Int) (w : World) (h : R2 w K A n c f) (hm1 : -9223372036854775808 ≤ m) (hm2 : m ≤ 9223372036854775807) :
    Calls Try.prog 18 #[.slice A n c, .int .i64 m] w (Gives w (.bool (validB f m))) := by
  have hbig := h.big
  have hcap := h.cap
  have HL := Lib.hid h.len
  have hb := (Below.refl w.heap.size w).alloc (Nat.le_refl _) (.cells #[.int .i64 m] 3)
  have HB0 := Lib.hid hb
  clear hb
  by_cases hh : m < 0 ∨ 16 < m ∨ 200 < n
  · have HV := Lib.hid (valid_head f m (by rw [HL.out]; exact hh))
    clear h
    generalize validB f m = b at *
    by_cases h1 : m < 0
    · have d1 : decide (0 ≤ m) = false := by simp; omega
      clear hh
      go_enter Try.func18, Try.ntmps18
      go_wp2
      go_ret
      exact ⟨ret_bool HV.out.symm, HB0.out⟩
    · have d1 : decide (0 ≤ m) = true := by simp; omega
      by_cases h2 : 16 < m
      · have d2 : decide (m ≤ 16) = false := by simp; omega
        clear hh
        go_enter Try.func18, Try.ntmps18
        go_wp2
        go_ret
        exact ⟨ret_bool HV.out.symm, HB0.out⟩
      · have d2 : decide (m ≤ 16) = true := by simp; omega
        have d3 : decide (n ≤ 200) = false := by simp; omega
        have d4 : decide ((n : Int) ≤ 200) = false := by simp; omega
        clear hh
        go_enter Try.func18, Try.ntmps18
        go_wp2
        go_ret
        exact ⟨ret_bool HV.out.symm, HB0.out⟩
  · have h1 : 0 ≤ m := by omega
    have h2 : m ≤ 16 := by omega
    have h3 : n ≤ 200 := by omega
    have d3 : decide (n ≤ 200) = true := by simp; omega
    have d4 : decide ((n : Int) ≤ 200) = true := by simp; omega
    have HV := Lib.hid (valid_body f m h1 h2 (by rw [HL.out]; exact h3))
    have HC := Lib.hid (containsBad_c K A n c f w.heap.size m _ (h.below HB0.out) (Blk.new w 3 #[.int .i64 m]) ⟨h1, h2⟩)
    clear h hh
    generalize validB f m = b at *
    generalize f.all (okC m) = b' at *
    go_enter Try.func18, Try.ntmps18
    go_wp2_with (go_at_call 41; refine HC.out.mono ?_; rintro e w' ⟨rfl, hb⟩; have HB1 := Lib.hid hb; clear hb)
    go_ret
    exact ⟨ret_bool (by rw [HV.out] <;> cases b' <;> rfl), HB0.out.trans (HB1.out.mono (by simp))⟩

/-- the closure 'holds' of Holds -/
theorem holds1_c (g : Nat) (K : Nat → Prop) (A : Option Addr) (n c : Nat) (m : List Bool) (l : Int) (w : World) (hg : Blk w g 23 #[.slice A n c]) (h : RB w K A n c m) (h0 : l ≠ 0) (h1 : l ≤ n) (h2 : -(n : Int) ≤ l) :
    Calls Try.prog 45 #[.int .i64 l, .pointer (some ⟨g, 0, none⟩)] w fun e w' => e = .returned (.bool (litB m l)) ∧ w = w' := by
  have hbig := h.big
  have hcap := h.cap
  have c1 : w.cell? ⟨g, 0, none⟩ = some (.slice A n c) := hg.cell 0
  clear hg
  by_cases hp : 0 < l
  · obtain ⟨ad, x, rfl, _, hx, hcell⟩ := h.at_ (k := l.toNat - 1) (by omega)
    have hv : litB m l = x := by rw [litB, if_pos hp, List.getD_eq_getElem?_getD, show (l - 1).toNat = l.toNat - 1 from by omega, hx]; rfl
    have Hv := Lib.hid hv
    clear hv hx h
    go_enter Try.func45, Try.ntmps45
    go_wp2
    go_ret
    exact ⟨ret_bool Hv.out.symm, rfl⟩
  · obtain ⟨ad, x, rfl, _, hx, hcell⟩ := h.at_ (k := (-l).toNat - 1) (by omega)
    have hv : litB m l = !x := by rw [litB, if_neg hp, List.getD_eq_getElem?_getD, show (-l - 1).toNat = (-l).toNat - 1 from by omega, hx]; rfl
    have Hv := Lib.hid hv
    have hneg : l < 0 := by omega
    clear hv hx h
    go_enter Try.func45, Try.ntmps45
    go_wp2
    go_ret
    exact ⟨ret_bool Hv.out.symm, rfl⟩

/-- 'slices.IndexFunc' over the closure 'holds'. -/
theorem indexLit_c (K K' : Nat → Prop) (A A' : Option Addr) (n c n' c' : Nat) (l : List Int) (g : Nat) (m : List Bool) (w : World) (h : R1 w K A n c l) (hg : Blk w g 23 #[.slice A' n' c']) (h' : RB w K' A' n' c' m) (hv : l.all (wi n') = true) :
    Calls Try.prog 63 #[.slice A n c, .func (.func 45) #[] #[.pointer (some ⟨g, 0, none⟩)]] w (IdxPost (satC m l) w) := by
  have hbig := h.big
  have hcap := h.cap
  have HG := Lib.hid hg
  have HV := Lib.hid hv
  clear hg hv
  go_enter Try.func63, Try.ntmps63
  go_wp2
  go_loop [8] (fun i => ∃ k : Nat, k ≤ n ∧ i = .int .i64 k ∧ satC m (l.take k) = false) (fun i => n - (intOf i).toNat)
  case atStart => exact ⟨0, Nat.zero_le _, rfl, by simp [satC]⟩
  case round =>
    obtain ⟨k, hk, rfl, hnt⟩ := hrel
    have H := Lib.hid hnt
    clear hnt
    by_cases hlt : k < n
    · obtain ⟨ad, x, rfl, _, hx, hw, hcell⟩ := h.at_ hlt
      obtain ⟨hw1, hw2⟩ := hw
      have HX := Lib.hid (take_snoc_of hx)
      have Hx := Lib.hid hx
      obtain ⟨v0, v1, v2⟩ := wi_facts (List.all_eq_true.1 HV.out x (List.mem_of_getElem? hx))
      have HC := Lib.hid (holds1_c g K' A' n' c' m x w HG.out h' v0 v1 v2)
      clear hx h h' v0 v1 v2
      cases hb : litB m x
      · rw [hb] at HC
        have HB := Lib.hid hb
        clear hb
        go_wp2_with (go_at_call 45; refine HC.out.mono ?_; rintro e w' ⟨rfl, rfl⟩)
        go_round
        case rel =>
          refine ⟨k + 1, by omega, by go_num, ?_⟩
          have := H.out
          unfold satC at this ⊢
          rw [HX.out, List.any_append, this]
          simp [HB.out]
        case measure => simp [intOf]; omega
      · rw [hb] at HC
        have HB := Lib.hid hb
        clear hb
        go_wp2_with (go_at_call 45; refine HC.out.mono ?_; rintro e w' ⟨rfl, rfl⟩)
        go_ret
        exact ⟨k, rfl, by
          have : satC m l = true := by unfold satC; rw [List.any_eq_true]; exact ⟨x, List.mem_of_getElem? Hx.out, HB.out⟩
          rw [this]; simp, rfl⟩
    · go_wp2
      go_ret
      have hl := h.len
      have := H.out
      rw [List.take_of_length_le (by omega)] at this
      exact ⟨-1, rfl, by rw [this]; rfl, rfl⟩

/-- 'slices.ContainsFunc' over the closure 'holds'. -/
theorem containsLit_c (K K' : Nat → Prop) (A A' : Option Addr) (n c n' c' : Nat) (l : List Int) (g : Nat) (m : List Bool) (w : World) (h : R1 w K A n c l) (hg : Blk w g 23 #[.slice A' n' c']) (h' : RB w K' A' n' c' m) (hv : l.all (wi n') = true) :
    Calls Try.prog 47 #[.slice A n c, .func (.func 45) #[] #[.pointer (some ⟨g, 0, none⟩)]] w fun e w' => e = .returned (.bool (satC m l)) ∧ w = w' := by
  have HC := Lib.hid (indexLit_c K K' A A' n c n' c' l g m w h hg h' hv)
  clear h hg h' hv
  generalize satC m l = b at *
  go_enter Try.func47, Try.ntmps47
  go_wp2_with (go_at_call 63; refine HC.out.mono ?_; rintro e w' ⟨r, rfl, hb, rfl⟩; have Hb := Lib.hid hb; clear hb)
  go_ret
  exact ⟨ret_bool Hb.out, rfl⟩

/-- the second closure of Holds: the clause does not hold -/
theorem holds2_c (K K' : Nat → Prop) (A A' : Option Addr) (n c n' c' : Nat) (l : List Int) (g gh : Nat) (m : List Bool) (w : World) (h : R1 w K A n c l) (hg : Blk w g 23 #[.slice A' n' c'])
    (hh : Blk w gh 64 #[.func (.func 45) #[] #[.pointer (some ⟨g, 0, none⟩)]]) (h' : RB w K' A' n' c' m) (hv : l.all (wi n') = true) :
    Calls Try.prog 46 #[.slice A n c, .pointer (some ⟨gh, 0, none⟩)] w fun e w' => e = .returned (.bool (!satC m l)) ∧ w = w' := by
  have c1 : w.cell? ⟨gh, 0, none⟩ = some (.func (.func 45) #[] #[.pointer (some ⟨g, 0, none⟩)]) := hh.cell 0
  have HC := Lib.hid (containsLit_c K K' A A' n c n' c' l g m w h hg h' hv)
  clear h hg h' hv hh
  generalize satC m l = b at *
  go_enter Try.func46, Try.ntmps46
  go_wp2_with (go_at_call 47; refine HC.out.mono ?_; rintro e w' ⟨rfl, rfl⟩)
  go_ret
  exact ⟨rfl, rfl⟩

/-- 'slices.IndexFunc' over the second closure of Holds. -/
theorem indexCl_c (K K' : Nat → Prop) (A A' : Option Addr) (n c n' c' : Nat) (f : List (List Int)) (g gh : Nat) (m : List Bool) (w : World) (h : R2 w K A n c f) (hg : Blk w g 23 #[.slice A' n' c'])
    (hh : Blk w gh 64 #[.func (.func 45) #[] #[.pointer (some ⟨g, 0, none⟩)]]) (h' : RB w K' A' n' c' m) (hv : f.all (fun l => l.all (wi n')) = true) :
    Calls Try.prog 61 #[.slice A n c, .func (.func 46) #[] #[.pointer (some ⟨gh, 0, none⟩)]] w (IdxPost (!satF m f) w) := by
  have hbig := h.big
  have hcap := h.cap
  have HG := Lib.hid hg
  have HH := Lib.hid hh
  have HV := Lib.hid hv
  clear hg hh hv
  go_enter Try.func61, Try.ntmps61
  go_wp2
  go_loop [8] (fun i => ∃ k : Nat, k ≤ n ∧ i = .int .i64 k ∧ satF m (f.take k) = true) (fun i => n - (intOf i).toNat)
  case atStart => exact ⟨0, Nat.zero_le _, rfl, by simp [satF]⟩
  case round =>
    obtain ⟨k, hk, rfl, hnt⟩ := hrel
    have H := Lib.hid hnt
    clear hnt
    by_cases hlt : k < n
    · obtain ⟨ad, x, A1, n1, c1, rfl, _, hx, hcell, h1⟩ := h.at_ hlt
      have HX := Lib.hid (take_snoc_of hx)
      have Hx := Lib.hid hx
      have HC := Lib.hid (holds2_c K K' A1 A' n1 c1 n' c' x g gh m w h1 HG.out HH.out h' (List.all_eq_true.1 HV.out x (List.mem_of_getElem? hx)))
      clear hx h h' h1
      cases hb : satC m x
      · rw [hb] at HC
        have HB := Lib.hid hb
        clear hb
        go_wp2_with (go_at_call 46; refine HC.out.mono ?_; rintro e w' ⟨rfl, rfl⟩)
        go_ret
        exact ⟨k, rfl, by
          have : satF m f = false := by unfold satF; rw [List.all_eq_false]; exact ⟨x, List.mem_of_getElem? Hx.out, by rw [HB.out]; simp⟩
          rw [this]; simp, rfl⟩
      · rw [hb] at HC
        have HB := Lib.hid hb
        clear hb
        go_wp2_with (go_at_call 46; refine HC.out.mono ?_; rintro e w' ⟨rfl, rfl⟩)
        go_round
        case rel =>
          refine ⟨k + 1, by omega, by go_num, ?_⟩
          have := H.out
          unfold satF at this ⊢
          rw [HX.out, List.all_append, this]
          simp [HB.out]
        case measure => simp [intOf]; omega
    · go_wp2
      go_ret
      have hl := h.len
      have := H.out
      rw [List.take_of_length_le (by omega)] at this
      exact ⟨-1, rfl, by rw [this]; rfl, rfl⟩

/-- 'slices.ContainsFunc' over the second closure of Holds. -/
theorem containsCl_c (K K' : Nat → Prop) (A A' : Option Addr) (n c n' c' : Nat) (f : List (List Int)) (g gh : Nat) (m : List Bool) (w : World) (h : R2 w K A n c f) (hg : Blk w g 23 #[.slice A' n' c'])
    (hh : Blk w gh 64 #[.func (.func 45) #[] #[.pointer (some ⟨g, 0, none⟩)]]) (h' : RB w K' A' n' c' m) (hv : f.all (fun l => l.all (wi n')) = true) :
    Calls Try.prog 41 #[.slice A n c, .func (.func 46) #[] #[.pointer (some ⟨gh, 0, none⟩)]] w fun e w' => e = .returned (.bool (!satF m f)) ∧ w = w' := by
  have HC := Lib.hid (indexCl_c K K' A A' n c n' c' f g gh m w h hg hh h' hv)
  clear h hg h' hv hh
  generalize (!satF m f) = b at *
  go_enter Try.func41, Try.ntmps41
  go_wp2_with (go_at_call 61; refine HC.out.mono ?_; rintro e w' ⟨r, rfl, hb, rfl⟩; have Hb := Lib.hid hb; clear hb)
  go_ret
  exact ⟨ret_bool Hb.out, rfl⟩

end Go.Proofs.Ytekbkdbmkjdgbaa
