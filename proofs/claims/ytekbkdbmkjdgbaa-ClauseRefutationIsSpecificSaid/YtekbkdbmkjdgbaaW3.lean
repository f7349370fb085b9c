/- The walk of the program's unit propagation. -/
import Derived.Test.YtekbkdbmkjdgbaaW2
namespace Go.Proofs.Ytekbkdbmkjdgbaa
open Go.RowKit

structure PrRel (w wr : World) (a : List Int) : Prop where
  below : Below w.heap.size w wr
  size : wr.heap.size = w.heap.size + 2
  cur : Blk wr w.heap.size 55 (pv a)
  out : Blk wr (w.heap.size + 1) 55 (pv zeros)
  wf : Wf a

theorem PrRel.start (w : World) {a : List Int} (ha : Wf a) : PrRel w ((w.alloc (.cells (pv a) 55)).alloc (.cells (pv zeros) 55)) a :=
  ⟨((Below.refl _ _).alloc (Nat.le_refl _) _).alloc (by simp) _, by simp, (Blk.new w 55 _).alloc _, by have := Blk.new (w.alloc (.cells (pv a) 55)) 55 (pv zeros); simpa using this, ha⟩

def OutRel (w : World) (f : List (List Int)) (R : Option (List Int)) (g : Nat) (ch : Bool) (wr : World) : Prop :=
  ∃ a, PrRel w wr a ∧ g = (if ch then zc a + 1 else 0) ∧ (if ch then propA f a else some a) = R
def MidRel (w : World) (f : List (List Int)) (R : Option (List Int)) (z k : Nat) (ch : Bool) (wr : World) : Prop :=
  ∃ a, PrRel w wr a ∧ zc a ≤ z ∧ (ch = true → zc a < z) ∧ nextP (propA f) (passF (f.drop k) a ch) = R
def InRel (a x : List Int) (j : Nat) (u : Int) : Prop := -16 ≤ u ∧ u ≤ 16 ∧ scanF a (x.drop j) u = scanF a x 0


theorem out_mid {w wr : World} {f : List (List Int)} {R : Option (List Int)} {g : Nat} (hf : Lits f) (h : OutRel w f R g true wr) : ∃ z, g = z + 1 ∧ MidRel w f R z 0 false wr := by
  obtain ⟨a, hp, hg, hr⟩ := h
  refine ⟨zc a, hg, a, hp, Nat.le_refl _, (fun e => (by cases e)), ?_⟩
  rw [if_pos rfl] at hr
  rw [← hr, propA_step hf hp.wf]
  rfl
theorem mid_out {w wr : World} {f : List (List Int)} {R : Option (List Int)} {z k : Nat} {ch : Bool} (hk : f.length ≤ k) (h : MidRel w f R z k ch wr) : ∃ g, g < z + 1 ∧ OutRel w f R g ch wr := by
  obtain ⟨a, hp, h1, h2, hr⟩ := h
  rw [List.drop_eq_nil_of_le hk, passF] at hr
  cases ch with
  | false => exact ⟨0, by omega, a, hp, rfl, hr⟩
  | true => exact ⟨zc a + 1, by have := h2 rfl; omega, a, hp, rfl, hr⟩
theorem out_end {w wr : World} {f : List (List Int)} {R : Option (List Int)} {g : Nat} (h : OutRel w f R g false wr) : ∃ a, PrRel w wr a ∧ R = some a := by
  obtain ⟨a, hp, _, hr⟩ := h
  exact ⟨a, hp, hr.symm⟩
theorem mid_skip {f : List (List Int)} {R : Option (List Int)} {k : Nat} {ch : Bool} {a x : List Int} (hx : f[k]? = some x) (hs : scanF a x 0 = none) (h : nextP (propA f) (passF (f.drop k) a ch) = R) : nextP (propA f) (passF (f.drop (k + 1)) a ch) = R := by
  rw [← h, drop_cons_of hx, passF, hs]
theorem mid_conf {f : List (List Int)} {R : Option (List Int)} {k : Nat} {ch : Bool} {a x : List Int} (hx : f[k]? = some x) (hs : scanF a x 0 = some 0) (h : nextP (propA f) (passF (f.drop k) a ch) = R) : R = none := by
  rw [← h, drop_cons_of hx, passF, hs]; rfl
theorem mid_unit {f : List (List Int)} {R : Option (List Int)} {k : Nat} {ch : Bool} {a x : List Int} {u : Int} (hx : f[k]? = some x) (hs : scanF a x 0 = some u) (hu : u ≠ 0) (h : nextP (propA f) (passF (f.drop k) a ch) = R) : nextP (propA f) (passF (f.drop (k + 1)) (setL a u) true) = R := by
  rw [← h, drop_cons_of hx, passF, hs]
  show _ = nextP (propA f) (if u = 0 then none else passF (f.drop (k + 1)) (setL a u) true)
  rw [if_neg hu]
theorem in_skip {a x : List Int} {j : Nat} {u y : Int} (hy : x[j]? = some y) (h : InRel a x j u) (hv : 0 < val a y ∨ (val a y = 0 ∧ u ≠ 0 ∧ u ≠ y)) : scanF a x 0 = none := by
  rw [← h.2.2, drop_cons_of hy, scanF]
  rcases hv with hv | ⟨h1, h2, h3⟩
  · simp [hv]
  · simp [h1, h2, h3]
theorem in_take {a x : List Int} {j : Nat} {u y : Int} (hy : x[j]? = some y) (h : InRel a x j u) (h1 : y ≤ 16) (h2 : -16 ≤ y) (hv : val a y = 0) (hu : u = 0 ∨ u = y) : InRel a x (j + 1) y := by
  refine ⟨h2, h1, ?_⟩
  rw [← h.2.2, drop_cons_of hy, scanF]
  rcases hu with rfl | rfl <;> simp [hv]
theorem in_keep {a x : List Int} {j : Nat} {u y : Int} (hy : x[j]? = some y) (h : InRel a x j u) (hv : val a y < 0) : InRel a x (j + 1) u := by
  refine ⟨h.1, h.2.1, ?_⟩
  have h0 : ¬ 0 < val a y := by omega
  have h1 : ¬ val a y = 0 := by omega
  rw [← h.2.2, drop_cons_of hy, scanF]
  simp [h0, h1]
theorem in_end {a x : List Int} {j : Nat} {u : Int} (hj : x.length ≤ j) (h : InRel a x j u) : scanF a x 0 = some u := by
  rw [← h.2.2, List.drop_eq_nil_of_le hj, scanF]
theorem InRel.start (a x : List Int) : InRel a x 0 0 := ⟨by omega, by omega, rfl⟩

set_option maxHeartbeats 1000000 in
/-- 'propagate'. -/
theorem propagate_c (K : Nat → Prop) (A : Option Addr) (n c : Nat) (f : List (List Int)) (a0 : List Int) (w : World) (h : R2 w K A n c f) (hv : f.all (fun l => l.all (wi 16)) = true) (ha : Wf a0) :
    Calls Try.prog 50 #[.slice A n c, .agg (pv a0)] w (PartPost (propA f a0) w) := by
  have hbig := h.big
  have hcap := h.cap
  have HL := Lib.hid h.len
  have HV := Lib.hid (Lits.of_all hv)
  have HA := Lib.hid (show OutRel w f (propA f a0) (zc a0 + 1) true ((w.alloc (.cells (pv a0) 55)).alloc (.cells (pv zeros) 55)) from ⟨a0, PrRel.start w ha, rfl, rfl⟩)
  clear hv ha
  go_enter Try.func50, Try.ntmps50
  go_wp2
  rw [zagg]
  generalize propA f a0 = R at *
  generalize zc a0 + 1 = g0 at *
  go_loopg [7] g0 (fun g s7 wr => ∃ ch : Bool, s7 = .bool ch ∧ OutRel w f R g ch wr)
  case atStart => exact ⟨true, rfl, HA.out⟩
  case round =>
    clear HA
    obtain ⟨ch, rfl, hR⟩ := hrel
    have HR := Lib.hid hR
    clear hR
    cases ch
    · obtain ⟨a, hp, hr⟩ := out_end HR.out
      have HP := Lib.hid hp
      clear hp HR h
      go_wp2_with (first | (refine wpList_load_row rfl 55 (.tmp 3) rfl w.heap.size rfl 55 (pv a) (0, 0) _ HP.out.cur Try.underlying55 rfl (size55 HP.out.wf) ?_) | (refine wpList_store_rowTo rfl 55 (.tmp 4) (.tmp 56) rfl rfl (w.heap.size + 1) (pv a) rfl rfl 55 (pv zeros) HP.out.out (size55 HP.out.wf) (by rw [pv_size, pv_size, HP.out.wf.1]; rfl) (pv_one _) ?_))
      refine bodyPost_ret (v := .tuple #[.agg (pv a), .bool true]) ?_ rfl ?_
      · simp [results, Try.results50, asAddr, run_loadVar_row _ (w.heap.size + 1) 55 55 (pv a) (0, 0) _ (HP.out.out.setRow (pv a)) Try.underlying55 rfl (size55 HP.out.wf)]
      · exact ⟨by rw [hr]; rfl, below_setRow HP.out.below (by omega) _⟩
    · obtain ⟨z, hz, hm⟩ := out_mid HV.out HR.out
      have HZ := Lib.hid hz
      have HM := Lib.hid hm
      clear hz hm HR
      go_wp2
      go_step3
      go_wp2
      go_step3
      go_wp2
      go_loopg [7, 18] n (fun g s7 s18 w2 => ∃ (k : Nat) (ch : Bool), k ≤ n ∧ g = n - k ∧ s18 = .int .i64 k ∧ s7 = .bool ch ∧ MidRel w f R z k ch w2)
      case atStart => exact ⟨0, false, Nat.zero_le _, rfl, rfl, rfl, HM.out⟩
      case round =>
        clear HM
        obtain ⟨k, ch, hk, hgk, rfl, rfl, a, hp, hz1, hz2, hr⟩ := hrel
        have HG := Lib.hid hgk
        have HP := Lib.hid hp
        have Hz := Lib.hid (And.intro hz1 hz2)
        have HR := Lib.hid hr
        clear hgk hp hz1 hz2 hr
        by_cases hlt : k < n
        · have h2 := h.below HP.out.below
          obtain ⟨ad, x, A1, n1, c1, rfl, _, hx, hcell, h1⟩ := h2.at_ hlt
          have HX := Lib.hid hx
          have hb1 := h1.big
          have hb2 := h1.cap
          have HL1 := Lib.hid h1.len
          clear hx h h2
          go_wp2
          go_loopg [10, 24] n1 (fun g s10 s24 w3 => wr = w3 ∧ ∃ (j : Nat) (u : Int), j ≤ n1 ∧ g = n1 - j ∧ s24 = .int .i64 j ∧ s10 = .int .i64 u ∧ InRel a x j u)
          case atStart => exact ⟨rfl, 0, 0, Nat.zero_le _, rfl, rfl, rfl, InRel.start a x⟩
          case round =>
            obtain ⟨rfl, j, u, hj, hgj, rfl, rfl, hin⟩ := hrel
            have HI := Lib.hid hin
            have HJ := Lib.hid hgj
            clear hin hgj
            by_cases hlj : j < n1
            · obtain ⟨ad1, y, rfl, _, hy, hwy, hcy⟩ := h1.at_ hlj
              have hwy2 := wi_facts (HV.out x (List.mem_of_getElem? HX.out) y (List.mem_of_getElem? hy))
              obtain ⟨y0, y1, y2⟩ := hwy2
              have HY := Lib.hid hy
              have HC := Lib.hid (value_c w.heap.size a y _ HP.out.cur HP.out.wf y1 y2)
              have hb := HP.out.wf.val y
              clear hy hwy h1
              have hcases : val a y = 1 ∨ val a y = 0 ∨ val a y = -1 := by omega
              clear hb
              rcases hcases with hval | hval | hval
              · have Hval := Lib.hid hval
                rw [hval] at HC
                clear hval
                go_wp2_with (go_at_call 67; refine HC.out.mono ?_; rintro e w' ⟨rfl, rfl⟩)
                go_roundg (n - (k + 1))
                case measure => go_light; have := HG.out; omega
                case rel =>
                  go_light
                  exact ⟨k + 1, ch, by omega, rfl, by go_num, rfl, a, HP.out, Hz.out.1, Hz.out.2, mid_skip HX.out (in_skip HY.out HI.out (.inl (by rw [Hval.out]; omega))) HR.out⟩
              · have Hval := Lib.hid hval
                rw [hval] at HC
                clear hval
                by_cases hu0 : u = 0
                · subst hu0
                  go_wp2_with (go_at_call 67; refine HC.out.mono ?_; rintro e w' ⟨rfl, rfl⟩)
                  go_roundg (n1 - (j + 1))
                  case measure => go_light; have := HJ.out; omega
                  case rel =>
                    go_light
                    exact ⟨rfl, j + 1, y, by omega, rfl, by go_num, rfl, in_take HY.out HI.out y1 y2 Hval.out (.inl rfl)⟩
                · by_cases huy : u = y
                  · subst huy
                    have b1 : (u == 0) = false := by simp [hu0]
                    have b2 : (u != 0) = true := by simp [hu0]
                    go_wp2_with (go_at_call 67; refine HC.out.mono ?_; rintro e w' ⟨rfl, rfl⟩)
                    go_roundg (n1 - (j + 1))
                    case measure => go_light; have := HJ.out; omega
                    case rel =>
                      go_light
                      exact ⟨rfl, j + 1, u, by omega, rfl, by go_num, rfl, in_take HY.out HI.out y1 y2 Hval.out (.inr rfl)⟩
                  · have b1 : (u == 0) = false := by simp [hu0]
                    have b2 : (u != 0) = true := by simp [hu0]
                    have b3 : (u == y) = false := by simp [huy]
                    have b4 : (u != y) = true := by simp [huy]
                    go_wp2_with (go_at_call 67; refine HC.out.mono ?_; rintro e w' ⟨rfl, rfl⟩)
                    go_roundg (n - (k + 1))
                    case measure => go_light; have := HG.out; omega
                    case rel =>
                      go_light
                      exact ⟨k + 1, ch, by omega, rfl, by go_num, rfl, a, HP.out, Hz.out.1, Hz.out.2, mid_skip HX.out (in_skip HY.out HI.out (.inr ⟨Hval.out, hu0, huy⟩)) HR.out⟩
              · have Hval := Lib.hid hval
                rw [hval] at HC
                clear hval
                go_wp2_with (go_at_call 67; refine HC.out.mono ?_; rintro e w' ⟨rfl, rfl⟩)
                go_roundg (n1 - (j + 1))
                case measure => go_light; have := HJ.out; omega
                case rel =>
                  go_light
                  exact ⟨rfl, j + 1, u, by omega, rfl, by go_num, rfl, in_keep HY.out HI.out (by rw [Hval.out]; omega)⟩
            · have hs := in_end (by have := HL1.out; omega) HI.out
              have HS := Lib.hid hs
              clear hs
              by_cases hu0 : u = 0
              · subst hu0
                go_wp2_with (first | (refine wpList_store_rowTo rfl 55 (.tmp 4) (.tmp 52) rfl rfl (w.heap.size + 1) (pv zeros) rfl rfl 55 (pv zeros) HP.out.out (size55 Wf.zeros) rfl (pv_one _) ?_))
                try rw [Exit.noGoto_ret]
                refine bodyPost_ret (v := .tuple #[.agg (pv zeros), .bool false]) ?_ rfl ?_
                · simp [results, Try.results50, asAddr, run_loadVar_row _ (w.heap.size + 1) 55 55 (pv zeros) (0, 0) _ (HP.out.out.setRow (pv zeros)) Try.underlying55 rfl (size55 Wf.zeros)]
                · exact ⟨by rw [mid_conf HX.out HS.out HR.out]; rfl, below_setRow HP.out.below (by omega) _⟩
              · have b1 : (u == 0) = false := by simp [hu0]
                have b2 : (u != 0) = true := by simp [hu0]
                obtain ⟨u1, u2, _⟩ := HI.out
                have HC := Lib.hid (set_c w.heap.size a u _ HP.out.cur HP.out.wf u2 u1)
                clear h1
                go_wp2_with (go_at_call 66; refine HC.out.mono ?_; rintro e w' ⟨rfl, hb, ho⟩; have HB := Lib.hid hb; have HO := Lib.hid ho; clear hb ho)
                have hu : u ∈ x ∧ val a u = 0 := by
                  rcases scanF_some HS.out with e | e
                  · exact absurd e hu0
                  · exact e
                have hzs := zc_setL HP.out.wf (HV.out x (List.mem_of_getElem? HX.out) u hu.1) hu.2
                go_roundg (n - (k + 1))
                case measure => go_light; have := HG.out; omega
                case rel =>
                  go_light
                  have := Hz.out.1
                  exact ⟨k + 1, true, by omega, rfl, by go_num, rfl, setL a u, ⟨below_only HP.out.below HO.out (Nat.le_refl _), by rw [HO.out.size]; exact HP.out.size, HB.out, HP.out.out.only HO.out (by omega), HP.out.wf.setL u⟩, by omega, fun _ => by omega, mid_unit HX.out HS.out hu0 HR.out⟩
        · obtain ⟨g', hg1, hg2⟩ := mid_out (w := w) (by have := HL.out; omega) (show MidRel w f R z k ch wr from ⟨a, HP.out, Hz.out.1, Hz.out.2, HR.out⟩)
          have HG2 := Lib.hid hg2
          clear hg2 h
          go_wp2
          try rw [Exit.noGoto_normal]
          go_wp2
          go_roundg g'
          case measure => go_light; have := HZ.out; omega
          case rel => go_light; exact ⟨ch, rfl, HG2.out⟩
end Go.Proofs.Ytekbkdbmkjdgbaa
