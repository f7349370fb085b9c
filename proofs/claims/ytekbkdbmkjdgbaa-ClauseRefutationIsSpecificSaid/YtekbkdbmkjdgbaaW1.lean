/- Walks of the leaf functions: has, slices.Contains, within. -/
import Derived.Test.YtekbkdbmkjdgbaaLib
namespace Go.Proofs.Ytekbkdbmkjdgbaa
open Go.RowKit

/-- 'has'. -/
theorem has_c (K : Nat → Prop) (A : Option Addr) (n c : Nat) (l : List Int) (t : Int) (w : World) (h : R1 w K A n c l) :
    Calls Try.prog 59 #[.slice A n c, .int .i64 t] w fun e w' => e = .returned (.bool (hasB l t)) ∧ w = w' := by
  have hbig := h.big
  have hcap := h.cap
  go_enter Try.func59, Try.ntmps59
  go_wp2
  go_loop [5] (fun i => ∃ k : Nat, k ≤ n ∧ i = .int .i64 k ∧ ¬ t ∈ l.take k) (fun i => n - (intOf i).toNat)
  case atStart => exact ⟨0, Nat.zero_le _, rfl, by simp⟩
  case round =>
    obtain ⟨k, hk, rfl, hnt⟩ := hrel
    have H := Lib.hid hnt
    clear hnt
    by_cases hlt : k < n
    · obtain ⟨ad, x, rfl, _, hx, hw, hcell⟩ := h.at_ hlt
      obtain ⟨hw1, hw2⟩ := hw
      have HX := Lib.hid (take_snoc_of hx)
      have Hx := Lib.hid hx
      clear hx h
      go_wp2
      · go_ret
        have he : (x == t) = true := by assumption
        have hm : t ∈ l := by
          have := List.mem_of_getElem? Hx.out
          rw [← eq_of_beq he]; exact this
        exact ⟨by simp [hasB, hm], rfl⟩
      · have he : (x == t) = false := by assumption
        go_round
        case rel =>
          refine ⟨k + 1, by omega, by go_num, ?_⟩
          rw [HX.out]
          have := H.out
          have hne : t ≠ x := fun e => by rw [e] at he; simp at he
          simp [this, hne]
        case measure => simp [intOf]; omega
    · go_wp2
      go_ret
      have hl := h.len
      have := H.out
      rw [List.take_of_length_le (by omega)] at this
      exact ⟨by simp [hasB, this], rfl⟩

def IdxPost (b : Bool) (w : World) (e : Ending) (w' : World) : Prop := ∃ r : Int, e = .returned (.int .i64 r) ∧ decide (0 ≤ r) = b ∧ w = w'

/-- 'slices.Index'. -/
theorem index_c (K : Nat → Prop) (A : Option Addr) (n c : Nat) (l : List Int) (t : Int) (w : World) (h : R1 w K A n c l) :
    Calls Try.prog 69 #[.slice A n c, .int .i64 t] w (IdxPost (hasB l t) w) := by
  have hbig := h.big
  have hcap := h.cap
  go_enter Try.func69, Try.ntmps69
  go_wp2
  go_loop [8] (fun i => ∃ k : Nat, k ≤ n ∧ i = .int .i64 k ∧ ¬ t ∈ l.take k) (fun i => n - (intOf i).toNat)
  case atStart => exact ⟨0, Nat.zero_le _, rfl, by simp⟩
  case round =>
    obtain ⟨k, hk, rfl, hnt⟩ := hrel
    have H := Lib.hid hnt
    clear hnt
    by_cases hlt : k < n
    · obtain ⟨ad, x, rfl, _, hx, hw, hcell⟩ := h.at_ hlt
      obtain ⟨hw1, hw2⟩ := hw
      have HX := Lib.hid (take_snoc_of hx)
      have Hx := Lib.hid hx
      clear hx h
      go_wp2
      · go_ret
        have he : (t == x) = true := by assumption
        have hm : t ∈ l := by
          have := List.mem_of_getElem? Hx.out
          rw [eq_of_beq he]; exact this
        exact ⟨k, rfl, by simp [hasB, hm], rfl⟩
      · have he : (t == x) = false := by assumption
        go_round
        case rel =>
          refine ⟨k + 1, by omega, by go_num, ?_⟩
          rw [HX.out]
          have := H.out
          have hne : t ≠ x := fun e => by rw [e] at he; simp at he
          simp [this, hne]
        case measure => simp [intOf]; omega
    · go_wp2
      go_ret
      have hl := h.len
      have := H.out
      rw [List.take_of_length_le (by omega)] at this
      exact ⟨-1, rfl, by simp [hasB, this], rfl⟩

/-- 'slices.Contains'. -/
theorem contains_c (K : Nat → Prop) (A : Option Addr) (n c : Nat) (l : List Int) (t : Int) (w : World) (h : R1 w K A n c l) :
    Calls Try.prog 65 #[.slice A n c, .int .i64 t] w fun e w' => e = .returned (.bool (hasB l t)) ∧ w = w' := by
  go_enter Try.func65, Try.ntmps65
  go_wp2_with (go_at_call 69; refine (index_c K _ _ _ l _ _ h).mono ?_; rintro e w' ⟨r, rfl, hb, rfl⟩; have Hb := Lib.hid hb; clear hb)
  go_ret
  exact ⟨by rw [← Hb.out]; rfl, rfl⟩

/-- 'Within'. -/
theorem rwithin_c (l n : Int) (w : World) (hn : 0 ≤ n ∧ n ≤ 16) :
    Calls Try.prog 35 #[.int .i64 l, .int .i64 n] w fun e w' => e = .returned (.bool (wi n l)) ∧ w = w' := by
  obtain ⟨h1, h2⟩ := hn
  have H := Lib.hid (show wi n l = (decide (l ≠ 0) && (decide (l ≤ n) && decide (-n ≤ l))) from rfl)
  generalize wi n l = b at *
  go_enter Try.func35, Try.ntmps35
  go_wp2
  all_goals go_ret
  all_goals refine ⟨congrArg (fun b => Ending.returned (.bool b)) ?_, rfl⟩
  all_goals rw [H.out]
  · have h : l = 0 := by assumption
    subst h; rfl
  · have h : ¬ l = 0 := by assumption
    have h' : l ≤ n := by assumption
    simp [h, h']
  · have h : ¬ l = 0 := by assumption
    have h' : n < l := by assumption
    simp [h]; omega

/-- 'all'. -/
theorem rall_c (K : Nat → Prop) (A : Option Addr) (n c : Nat) (l : List Int) (m : Int) (w : World) (h : R1 w K A n c l) (hm : 0 ≤ m ∧ m ≤ 16) :
    Calls Try.prog 44 #[.slice A n c, .int .i64 m] w fun e w' => e = .returned (.bool (l.all (wi m))) ∧ w = w' := by
  have hbig := h.big
  have hcap := h.cap
  go_enter Try.func44, Try.ntmps44
  go_wp2
  go_loop [5] (fun i => ∃ k : Nat, k ≤ n ∧ i = .int .i64 k ∧ (l.take k).all (wi m) = true) (fun i => n - (intOf i).toNat)
  case atStart => exact ⟨0, Nat.zero_le _, rfl, by simp⟩
  case round =>
    obtain ⟨k, hk, rfl, hnt⟩ := hrel
    have H := Lib.hid hnt
    clear hnt
    by_cases hlt : k < n
    · obtain ⟨ad, x, rfl, _, hx, hw, hcell⟩ := h.at_ hlt
      obtain ⟨hw1, hw2⟩ := hw
      have HX := Lib.hid (take_snoc_of hx)
      have Hx := Lib.hid hx
      clear hx h
      go_wp2_with (go_at_call 35; refine (rwithin_c _ _ _ hm).mono ?_; rintro e w' ⟨rfl, rfl⟩)
      · go_ret
        have he : wi m x = false := Bool.not_eq_true' _ |>.mp (by assumption)
        have hm : l.all (wi m) = false := by
          rw [List.all_eq_false]; exact ⟨x, List.mem_of_getElem? Hx.out, by simp [he]⟩
        exact ⟨by rw [hm] <;> rfl, rfl⟩
      · have he : wi m x = true := Bool.not_eq_false' .. |>.mp (by assumption)
        go_round
        case rel =>
          refine ⟨k + 1, by omega, by go_num, ?_⟩
          rw [HX.out, List.all_append, H.out]
          simp [he]
        case measure => simp [intOf]; omega
    · go_wp2
      go_ret
      have hl := h.len
      have := H.out
      rw [List.take_of_length_le (by omega)] at this
      exact ⟨by rw [this] <;> rfl, rfl⟩

/-- 'True'. -/
theorem rtrue_c (K : Nat → Prop) (A : Option Addr) (n c : Nat) (m : List Bool) (l : Int) (w : World) (h : RB w K A n c m) (h0 : l ≠ 0) (h1 : l ≤ n) (h2 : -(n : Int) ≤ l) :
    Calls Try.prog 34 #[.int .i64 l, .slice A n c] w fun e w' => e = .returned (.bool (litB m l)) ∧ w = w' := by
  have hbig := h.big
  have hcap := h.cap
  by_cases hp : 0 < l
  · obtain ⟨ad, x, rfl, _, hx, hcell⟩ := h.at_ (k := l.toNat - 1) (by omega)
    have hv : litB m l = x := by rw [litB, if_pos hp, List.getD_eq_getElem?_getD, show (l - 1).toNat = l.toNat - 1 from by omega, hx]; rfl
    have Hv := Lib.hid hv
    clear hv hx h
    go_enter Try.func34, Try.ntmps34
    go_wp2
    go_ret
    exact ⟨by rw [Hv.out] <;> rfl, rfl⟩
  · obtain ⟨ad, x, rfl, _, hx, hcell⟩ := h.at_ (k := (-l).toNat - 1) (by omega)
    have hv : litB m l = !x := by rw [litB, if_neg hp, List.getD_eq_getElem?_getD, show (-l - 1).toNat = (-l).toNat - 1 from by omega, hx]; rfl
    have Hv := Lib.hid hv
    clear hv hx h
    go_enter Try.func34, Try.ntmps34
    go_wp2
    go_ret
    exact ⟨by rw [Hv.out] <;> rfl, rfl⟩

/-- 'clause' of the reference. -/
theorem rclause_c (K K' : Nat → Prop) (A A' : Option Addr) (n c n' c' : Nat) (l : List Int) (m : List Bool) (w : World) (h : R1 w K A n c l) (h' : RB w K' A' n' c' m) (hv : l.all (wi n') = true) :
    Calls Try.prog 64 #[.slice A n c, .slice A' n' c'] w fun e w' => e = .returned (.bool (satC m l)) ∧ w = w' := by
  have hbig := h.big
  have hcap := h.cap
  have HV := Lib.hid hv
  clear hv
  go_enter Try.func64, Try.ntmps64
  go_wp2
  go_loop [5] (fun i => ∃ k : Nat, k ≤ n ∧ i = .int .i64 k ∧ satC m (l.take k) = false) (fun i => n - (intOf i).toNat)
  case atStart => exact ⟨0, Nat.zero_le _, rfl, by simp [satC]⟩
  case round =>
    obtain ⟨k, hk, rfl, hnt⟩ := hrel
    have H := Lib.hid hnt
    clear hnt
    by_cases hlt : k < n
    · obtain ⟨ad, x, rfl, _, hx, hw, hcell⟩ := h.at_ hlt
      obtain ⟨hw1, hw2⟩ := hw
      have HX := Lib.hid (take_snoc_of hx)
      have Hx := Lib.hid hx
      have hwi := wi_facts (List.all_eq_true.1 HV.out x (List.mem_of_getElem? hx))
      obtain ⟨v0, v1, v2⟩ := hwi
      have HC := Lib.hid (rtrue_c K' A' n' c' m x w h' v0 v1 v2)
      clear hx h h' v0 v1 v2
      go_wp2_with (go_at_call 34; refine HC.out.mono ?_; rintro e w' ⟨rfl, rfl⟩)
      · go_ret
        have he : litB m x = true := by assumption
        have hm : satC m l = true := by
          unfold satC; rw [List.any_eq_true]; exact ⟨x, List.mem_of_getElem? Hx.out, he⟩
        exact ⟨by rw [hm] <;> rfl, rfl⟩
      · have he : litB m x = false := by assumption
        go_round
        case rel =>
          refine ⟨k + 1, by omega, by go_num, ?_⟩
          have := H.out
          unfold satC at this ⊢
          rw [HX.out, List.any_append, this]
          simp [he]
        case measure => simp [intOf]; omega
    · go_wp2
      go_ret
      have hl := h.len
      have := H.out
      rw [List.take_of_length_le (by omega)] at this
      exact ⟨by rw [this] <;> rfl, rfl⟩

/-- 'satisfies'. -/
theorem rsat_c (K K' : Nat → Prop) (A A' : Option Addr) (n c n' c' : Nat) (f : List (List Int)) (m : List Bool) (w : World) (h : R2 w K A n c f) (h' : RB w K' A' n' c' m) (hv : f.all (fun l => l.all (wi n')) = true) :
    Calls Try.prog 48 #[.slice A n c, .slice A' n' c'] w fun e w' => e = .returned (.bool (satF m f)) ∧ w = w' := by
  have hbig := h.big
  have hcap := h.cap
  have HV := Lib.hid hv
  clear hv
  go_enter Try.func48, Try.ntmps48
  go_wp2
  go_loop [5] (fun i => ∃ k : Nat, k ≤ n ∧ i = .int .i64 k ∧ satF m (f.take k) = true) (fun i => n - (intOf i).toNat)
  case atStart => exact ⟨0, Nat.zero_le _, rfl, by simp [satF]⟩
  case round =>
    obtain ⟨k, hk, rfl, hnt⟩ := hrel
    have H := Lib.hid hnt
    clear hnt
    by_cases hlt : k < n
    · obtain ⟨ad, x, A1, n1, c1, rfl, _, hx, hcell, h1⟩ := h.at_ hlt
      have HX := Lib.hid (take_snoc_of hx)
      have Hx := Lib.hid hx
      have hwi := List.all_eq_true.1 HV.out x (List.mem_of_getElem? hx)
      have HC := Lib.hid (rclause_c K K' A1 A' n1 c1 n' c' x m w h1 h' hwi)
      clear hx h h' h1 hwi
      go_wp2_with (go_at_call 64; refine HC.out.mono ?_; rintro e w' ⟨rfl, rfl⟩)
      · go_ret
        have he : satC m x = false := Bool.not_eq_true' _ |>.mp (by assumption)
        have hm : satF m f = false := by
          unfold satF; rw [List.all_eq_false]; exact ⟨x, List.mem_of_getElem? Hx.out, by simp [he]⟩
        exact ⟨by rw [hm] <;> rfl, rfl⟩
      · have he : satC m x = true := Bool.not_eq_false' .. |>.mp (by assumption)
        go_round
        case rel =>
          refine ⟨k + 1, by omega, by go_num, ?_⟩
          have := H.out
          unfold satF at this ⊢
          rw [HX.out, List.all_append, this]
          simp [he]
        case measure => simp [intOf]; omega
    · go_wp2
      go_ret
      have hl := h.len
      have := H.out
      rw [List.take_of_length_le (by omega)] at this
      exact ⟨by rw [this] <;> rfl, rfl⟩

theorem valid_head (f : List (List Int)) (n : Int) (h : n < 0 ∨ 16 < n ∨ 200 < f.length) : validB f n = false := by
  unfold validB
  rcases h with h | h | h
  · rw [decide_eq_false (by omega)]; rfl
  · rw [decide_eq_false (p := n ≤ 16) (by omega)]; simp
  · rw [decide_eq_false (p := f.length ≤ 200) (by omega)]; simp
theorem valid_body (f : List (List Int)) (n : Int) (h0 : 0 ≤ n) (h1 : n ≤ 16) (h2 : f.length ≤ 200) : validB f n = f.all (okC n) := by
  unfold validB
  rw [decide_eq_true h0, decide_eq_true h1, decide_eq_true h2]; simp

/-- 'Valid' of the reference. -/
theorem rvalid_c (K : Nat → Prop) (A : Option Addr) (n c : Nat) (f : List (List Int)) (m : Int) (w : World) (h : R2 w K A n c f) (hm1 : -9223372036854775808 ≤ m) (hm2 : m ≤ 9223372036854775807) :
    Calls Try.prog 19 #[.slice A n c, .int .i64 m] w fun e w' => e = .returned (.bool (validB f m)) ∧ w = w' := by
  have hbig := h.big
  have hcap := h.cap
  have HL := Lib.hid h.len
  by_cases hh : m < 0 ∨ 16 < m ∨ 200 < n
  · have HV := Lib.hid (valid_head f m (by rw [HL.out]; exact hh))
    clear h
    rcases hh with h1 | h1 | h1
    · go_enter Try.func19, Try.ntmps19
      go_wp2
      go_ret
      exact ⟨by rw [HV.out] <;> rfl, rfl⟩
    · have h2 : ¬ m < 0 := by omega
      go_enter Try.func19, Try.ntmps19
      go_wp2
      go_ret
      exact ⟨by rw [HV.out] <;> rfl, rfl⟩
    · by_cases h2 : m < 0
      · go_enter Try.func19, Try.ntmps19
        go_wp2
        go_ret
        exact ⟨by rw [HV.out] <;> rfl, rfl⟩
      · by_cases h3 : 16 < m
        all_goals
          go_enter Try.func19, Try.ntmps19
          go_wp2
          go_ret
          exact ⟨by rw [HV.out] <;> rfl, rfl⟩
  · have h1 : 0 ≤ m := by omega
    have h2 : m ≤ 16 := by omega
    have h3 : n ≤ 200 := by omega
    have d1 : decide (m < 0) = false := by simpa using h1
    have d2 : decide (16 < m) = false := by simpa using h2
    have d3 : decide (200 < n) = false := by simpa using h3
    have d4 : decide (200 < (n : Int)) = false := by simp; omega
    have HV := Lib.hid (valid_body f m h1 h2 (by rw [HL.out]; exact h3))
    clear hh
    go_enter Try.func19, Try.ntmps19
    go_wp2
    go_loop [5] (fun i => ∃ k : Nat, k ≤ n ∧ i = .int .i64 k ∧ (f.take k).all (okC m) = true) (fun i => n - (intOf i).toNat)
    case atStart => exact ⟨0, Nat.zero_le _, rfl, by simp⟩
    case round =>
      obtain ⟨k, hk, rfl, hnt⟩ := hrel
      have H := Lib.hid hnt
      clear hnt
      by_cases hlt : k < n
      · obtain ⟨ad, x, A1, n1, c1, rfl, _, hx, hcell, hr1⟩ := h.at_ hlt
        have HX := Lib.hid (take_snoc_of hx)
        have Hx := Lib.hid hx
        have HC := Lib.hid (rall_c K A1 n1 c1 x m w hr1 ⟨h1, h2⟩)
        have HL1 := Lib.hid hr1.len
        have hb1 := hr1.big
        have hb2 := hr1.cap
        clear hx h hr1
        by_cases h8 : 8 < n1
        · have d8 : decide (8 < n1) = true := by simpa using h8
          have d9 : decide (8 < (n1 : Int)) = true := by simp; omega
          go_wp2
          go_ret
          have hf : f.all (okC m) = false := by
            rw [List.all_eq_false]; exact ⟨x, List.mem_of_getElem? Hx.out, by simp [okC, HL1.out]; omega⟩
          exact ⟨by rw [HV.out, hf] <;> rfl, rfl⟩
        · have d8 : decide (8 < n1) = false := by simpa using h8
          have d9 : decide (8 < (n1 : Int)) = false := by simp; omega
          go_wp2_with (go_at_call 44; refine HC.out.mono ?_; rintro e w' ⟨rfl, rfl⟩)
          · go_ret
            have he : x.all (wi m) = false := Bool.not_eq_true' _ |>.mp (by assumption)
            have hf : f.all (okC m) = false := by
              rw [List.all_eq_false]; exact ⟨x, List.mem_of_getElem? Hx.out, by simp [okC, he]⟩
            exact ⟨by rw [HV.out, hf] <;> rfl, rfl⟩
          · have he : x.all (wi m) = true := Bool.not_eq_false' .. |>.mp (by assumption)
            go_round
            case rel =>
              refine ⟨k + 1, by omega, by go_num, ?_⟩
              rw [HX.out, List.all_append, H.out]
              simp only [List.all_cons, List.all_nil, okC, he, HL1.out, Bool.and_true, Bool.true_and, decide_eq_true_eq]
              omega
            case measure => simp [intOf]; omega
      · go_wp2
        go_ret
        have := H.out
        rw [List.take_of_length_le (by have := HL.out; omega)] at this
        exact ⟨by rw [HV.out, this] <;> rfl, rfl⟩

theorem valid_wi {f : List (List Int)} {n : Int} (h : validB f n = true) : f.all (fun l => l.all (wi n)) = true := by
  simp only [validB, Bool.and_eq_true] at h
  rw [List.all_eq_true] at h ⊢
  intro c hc
  have := h.2.2.2 c hc
  simp only [okC, Bool.and_eq_true] at this
  exact this.2

/-- 'Holds' of the reference. -/
theorem rholds_c (K K' : Nat → Prop) (A A' : Option Addr) (n c n' c' : Nat) (f : List (List Int)) (m : List Bool) (w : World) (h : R2 w K A n c f) (h' : RB w K' A' n' c' m) :
    Calls Try.prog 21 #[.slice A n c, .slice A' n' c'] w fun e w' => e = .returned (.bool (holdsB f m)) ∧ w = w' := by
  have hb := h'.big
  have hb' := h'.cap
  have HL := Lib.hid h'.len
  have HV := Lib.hid (rvalid_c K A n c f n' w h (by omega) (by omega))
  cases hv : validB f n'
  · have Hv := Lib.hid hv
    go_enter Try.func21, Try.ntmps21
    go_wp2_with (go_at_call 19; refine HV.out.mono ?_; rintro e w' ⟨rfl, rfl⟩)
    go_ret
    exact ⟨by rw [holdsB, HL.out, Hv.out]; rfl, rfl⟩
  · have Hv := Lib.hid hv
    have HS := Lib.hid (rsat_c K K' A A' n c n' c' f m w h h' (valid_wi hv))
    clear h h'
    go_enter Try.func21, Try.ntmps21
    go_wp2_with (first | (go_at_call 19; refine HV.out.mono ?_; rintro e w' ⟨rfl, rfl⟩) | (go_at_call 48; refine HS.out.mono ?_; rintro e w' ⟨rfl, rfl⟩))
    go_ret
    exact ⟨by rw [holdsB, HL.out, Hv.out]; rfl, rfl⟩

end Go.Proofs.Ytekbkdbmkjdgbaa
