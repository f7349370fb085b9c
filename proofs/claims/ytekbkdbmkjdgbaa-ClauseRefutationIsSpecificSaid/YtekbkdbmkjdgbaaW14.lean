/- Walks of the reference: unit. -/
import Derived.Test.YtekbkdbmkjdgbaaW10
import Derived.Test.YtekbkdbmkjdgbaaP3
namespace Go.Proofs.Ytekbkdbmkjdgbaa
open Go.RowKit

def UnitPost (w : World) (r : Int × Bool) (e : Ending) (w' : World) : Prop := e = .returned (.tuple #[.int .i64 r.1, .bool r.2]) ∧ w = w'

theorem unit_stop {s l : List Int} {k : Nat} {x u : Int} {r : Int × Bool} (h : unitF s (l.drop k) u = r) (hx : l[k]? = some x) (hs : (hasB s x || (u != 0 && (u != x && !hasB s (-x)))) = true) : r = (0, false) := by
  rw [← h, drop_cons_of hx, unitF, hs]; rfl
theorem unit_go {s l : List Int} {k : Nat} {x u : Int} {r : Int × Bool} (h : unitF s (l.drop k) u = r) (hx : l[k]? = some x) (hs : (hasB s x || (u != 0 && (u != x && !hasB s (-x)))) = false) : unitF s (l.drop (k + 1)) (if hasB s (-x) then u else x) = r := by
  rw [← h, drop_cons_of hx, unitF, hs]; simp

set_option maxHeartbeats 1000000 in
/-- 'unit'. -/
theorem unit_c (K K' : Nat → Prop) (A sA : Option Addr) (n c sn sc : Nat) (l s : List Int) (w : World) (h : R1 w K A n c l) (h' : R1 w K' sA sn sc s) (hv : l.all (wi 16) = true) :
    Calls Try.prog 68 #[.slice A n c, .slice sA sn sc] w (UnitPost w (unitF s l 0)) := by
  have hbig := h.big
  have hcap := h.cap
  have HV := Lib.hid hv
  have HL := Lib.hid h.len
  have HH := Lib.hid fun x => has_c K' sA sn sc s x w h'
  generalize hr : unitF s l 0 = r
  have HR := Lib.hid hr
  clear hv hr
  go_enter Try.func68, Try.ntmps68
  go_wp2
  go_loop [6, 7] (fun i6 i7 => ∃ (k : Nat) (u : Int), k ≤ n ∧ i7 = .int .i64 k ∧ i6 = .int .i64 u ∧ unitF s (l.drop k) u = r) (fun _ i7 => n - (intOf i7).toNat)
  case atStart => exact ⟨0, 0, Nat.zero_le _, rfl, rfl, by simpa using HR.out⟩
  case round =>
    clear HR
    obtain ⟨k, u, hk, rfl, rfl, hq⟩ := hrel
    have HQ := Lib.hid hq
    clear hq
    by_cases hlt : k < n
    · obtain ⟨ad, x, rfl, _, hx, hw, hcell⟩ := h.at_ hlt
      have HX := Lib.hid hx
      obtain ⟨v0, v1, v2⟩ := wi_facts (all_mem HV.out hx)
      clear hx hw h
      have HS := Lib.hid (unit_stop HQ.out HX.out)
      have HG := Lib.hid (unit_go HQ.out HX.out)
      cases hp : hasB s x
      · rw [hp] at HS HG
        cases hn : hasB s (-x)
        · rw [hn] at HS HG
          by_cases hu : u = 0
          · subst hu
            go_wp2_with (go_at_call 59; refine (HH.out _).mono ?_; rintro e w' ⟨rfl, rfl⟩)
            go_round
            case rel => exact ⟨k + 1, x, by omega, by go_num, rfl, HG.out rfl⟩
            case measure => simp [intOf]; omega
          · have b1 : (u == 0) = false := by simp [hu]
            have b2 : (u != 0) = true := by simp [hu]
            by_cases hux : u = x
            · have b3 : (u == x) = true := by simp [hux]
              have b4 : (u != x) = false := by simp [hux]
              have HU := Lib.hid hux
              clear hux hu
              go_wp2_with (go_at_call 59; refine (HH.out _).mono ?_; rintro e w' ⟨rfl, rfl⟩)
              go_round
              case rel => exact ⟨k + 1, x, by omega, by go_num, rfl, HG.out (by rw [b2, b4]; rfl)⟩
              case measure => simp [intOf]; omega
            · have b3 : (u == x) = false := by simp [hux]
              have b4 : (u != x) = true := by simp [hux]
              clear hux hu
              go_wp2_with (go_at_call 59; refine (HH.out _).mono ?_; rintro e w' ⟨rfl, rfl⟩)
              go_ret2
              exact ⟨by rw [HS.out (by rw [b2, b4]; rfl)] <;> rfl, rfl⟩
        · rw [hn] at HS HG
          by_cases hu : u = 0
          · subst hu
            go_wp2_with (go_at_call 59; refine (HH.out _).mono ?_; rintro e w' ⟨rfl, rfl⟩)
            go_round
            case rel => exact ⟨k + 1, 0, by omega, by go_num, rfl, HG.out rfl⟩
            case measure => simp [intOf]; omega
          · have b1 : (u == 0) = false := by simp [hu]
            have b2 : (u != 0) = true := by simp [hu]
            by_cases hux : u = x
            · have b3 : (u == x) = true := by simp [hux]
              have b4 : (u != x) = false := by simp [hux]
              have HU := Lib.hid hux
              clear hux hu
              go_wp2_with (go_at_call 59; refine (HH.out _).mono ?_; rintro e w' ⟨rfl, rfl⟩)
              go_round
              case rel => exact ⟨k + 1, u, by omega, by go_num, rfl, HG.out (by rw [b2, b4]; rfl)⟩
              case measure => simp [intOf]; omega
            · have b3 : (u == x) = false := by simp [hux]
              have b4 : (u != x) = true := by simp [hux]
              clear hux hu
              go_wp2_with (go_at_call 59; refine (HH.out _).mono ?_; rintro e w' ⟨rfl, rfl⟩)
              go_round
              case rel => exact ⟨k + 1, u, by omega, by go_num, rfl, HG.out (by rw [b2, b4]; rfl)⟩
              case measure => simp [intOf]; omega
      · rw [hp] at HS
        go_wp2_with (go_at_call 59; refine (HH.out _).mono ?_; rintro e w' ⟨rfl, rfl⟩)
        go_ret2
        exact ⟨by rw [HS.out rfl] <;> rfl, rfl⟩
    · obtain rfl : n = k := by omega
      have hq := HQ.out
      rw [List.drop_eq_nil_of_le (by have := HL.out; omega), unitF] at hq
      have HQ2 := Lib.hid hq
      clear hq HQ
      go_wp2
      go_ret2
      exact ⟨by rw [← HQ2.out] <;> rfl, rfl⟩

end Go.Proofs.Ytekbkdbmkjdgbaa
