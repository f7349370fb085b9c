/- Walks of the reference: Core. -/
import Derived.Test.YtekbkdbmkjdgbaaW20
namespace Go.Proofs.Ytekbkdbmkjdgbaa
open Go.RowKit

theorem rcoreF_bad {f : List (List Int)} {m : Int} (h : validB f m = false) : rcoreF f m = ([], false, 1) := by
  rw [rcoreF, h]; rfl
theorem rcoreF_some {f : List (List Int)} {m : Int} {x : List Bool} (h : validB f m = true) (hr : rleast f m.toNat = some x) : rcoreF f m = ([], false, 0) := by
  rw [rcoreF, if_pos h, hr]
theorem rcoreF_none {f : List (List Int)} {m : Int} (h : validB f m = true) (hr : rleast f m.toNat = none) : rcoreF f m = (stayF (goneFrom f m.toNat f.length (List.replicate f.length false)) 0, true, 0) := by
  rw [rcoreF, if_pos h, hr]
theorem gone_step (f : List (List Int)) (n i : Nat) (g : List Bool) : goneFrom f n (i + 1) g = goneFrom f n i (g.set i (rleast (leftF f (g.set i true)) n).isNone) := by
  rw [goneFrom]
theorem gone_len (f : List (List Int)) (n : Nat) : ∀ (i : Nat) (g : List Bool), (goneFrom f n i g).length = g.length
  | 0, g => by rw [goneFrom]
  | i + 1, g => by rw [gone_step, gone_len f n i]; simp
theorem stay_snoc : ∀ {g : List Bool} {k b : Nat} {x : Bool}, g[k]? = some x → stayF (g.take (k + 1)) b = stayF (g.take k) b ++ (if x then [] else [((b + k : Nat) : Int)])
  | [], _, _, _, h => by simp at h
  | y :: r, 0, b, x, h => by
    have e : y = x := by simpa using h
    subst e
    cases y <;> simp [stayF]
  | y :: r, k + 1, b, x, h => by
    have ih := stay_snoc (g := r) (k := k) (b := b + 1) (x := x) (by simpa using h)
    rw [List.take_succ_cons, List.take_succ_cons, stayF, stayF, ih, show b + 1 + k = b + (k + 1) by omega]
    split <;> simp

structure GnRel (w wr : World) (f : List (List Int)) (R : List Bool) (g nn n k : Nat) (gone : List Bool) : Prop where
  below : Below w.heap.size w wr
  blk : Blk wr g 4 (bv gone)
  lo : w.heap.size ≤ g
  len : gone.length = n
  rest : goneFrom f nn k gone = R
theorem GnRel.next {w wr w9 : World} {f : List (List Int)} {R : List Bool} {g nn n k : Nat} {gone : List Bool} {b : Bool} (h : GnRel w wr f R g nn n (k + 1) gone) (hb : (rleast (leftF f (gone.set k true)) nn).isNone = b)
    (h1 : Below w.heap.size w w9) (h2 : Blk w9 g 4 ((bv (gone.set k true)).setIfInBounds k (.bool b))) : GnRel w w9 f R g nn n k (gone.set k b) :=
  ⟨h1, by rw [bv_set, List.set_set] at h2; exact h2, h.lo, by simpa using h.len, by rw [← h.rest, gone_step, hb]⟩

structure StRel (w wr : World) (R : List Bool) (g n k : Nat) (A : Option Addr) (n0 c : Nat) : Prop where
  below : Below w.heap.size w wr
  blk : Blk wr g 4 (bv R)
  own : Own wr w.heap.size 3 A n0 c ((stayF (R.take k) 0).map (Value.int .i64))
  len : n0 ≤ k
  ne : obl A ≠ some g

set_option maxHeartbeats 2000000 in
/-- the reference's 'Core'. -/
theorem rcore_c (K : Nat → Prop) (A : Option Addr) (n c : Nat) (f : List (List Int)) (m : Int) (w : World) (h : R2 w K A n c f) (hm1 : -9223372036854775808 ≤ m) (hm2 : m ≤ 9223372036854775807) :
    Calls Try.prog 29 #[.slice A n c, .int .i64 m] w (CorePost w (coreF f m)) := by
  rw [← rcore_eq]
  have HV := Lib.hid (rvalid_c K A n c f m w h hm1 hm2)
  cases hv : validB f m
  · rw [hv] at HV
    rw [rcoreF_bad hv]
    clear hv h
    go_enter Try.func29, Try.ntmps29
    go_wp2_with (go_at_call 19; refine HV.out.mono ?_; rintro e w1 ⟨rfl, rfl⟩)
    refine bodyPost_ret (results_tmp3 rfl _ _ _) rfl ?_
    exact ⟨none, 0, 0, rfl, R1.nil_ _ _, Below.refl _ _⟩
  · rw [hv] at HV
    have hn200 : n ≤ 200 := by have := h.len; have := valid_len hv; omega
    obtain ⟨e0, h16, hw⟩ := valid_nat hv
    have Hsm := Lib.hid fun x hx => rcoreF_some (x := x) hv hx
    have Hno := Lib.hid fun hx => rcoreF_none hv hx
    have HF := Lib.hid h
    have HFl := Lib.hid h.len
    have hcap := h.cap
    have hpart : ∀ g : List Bool, (leftF f g).all (fun l => l.all (wi (m.toNat : Nat))) = true := fun g => by
      have := valid_nat (valid_part hv (Nat.le_trans (left_len f g) (valid_len hv)) left_mem)
      exact this.2.2
    have HPt := Lib.hid hpart
    clear hpart
    generalize m.toNat = nn at *
    subst e0
    have HM := Lib.hid (model_c K A n c nn f w h hw h16)
    clear hv h hw
    cases hr : rleast f nn with
    | some x =>
      rw [hr] at HM
      rw [Hsm.out x hr]
      clear hr
      go_enter Try.func29, Try.ntmps29
      go_wp2_with (first | (go_at_call 19; refine HV.out.mono ?_; rintro e w1 ⟨rfl, rfl⟩) | (go_at_call 39; refine HM.out.mono ?_; rintro e w1 ⟨mA, mn, mc, rfl, hm, hb⟩; have HB := Lib.hid hb; clear hm hb))
      refine bodyPost_ret (results_tmp3 rfl _ _ _) rfl ?_
      exact ⟨none, 0, 0, rfl, R1.nil_ _ _, HB.out⟩
    | none =>
      rw [hr] at HM
      rw [Hno.out hr]
      rw [HFl.out]
      generalize hR : goneFrom f nn n (List.replicate n false) = R
      have HR := Lib.hid hR
      have HRl := Lib.hid (show R.length = n by rw [← hR, gone_len]; simp)
      clear hr hR Hno Hsm
      go_enter Try.func29, Try.ntmps29
      go_wp2_with (first | (go_at_call 19; refine HV.out.mono ?_; rintro e w1 ⟨rfl, rfl⟩) | (go_at_call 39; refine HM.out.mono ?_; rintro e w1 ⟨rfl, hb⟩; have HB := Lib.hid hb; clear hb) | (refine wpList_makeFull rfl (.tmp 27) (.tmp 27) 23 rfl (.bool false) Try.underlying23 info4 rfl n rfl rfl (by omega) (by omega) ?_; intro w5 hk hb hs; have HK5 := Lib.hid hk; have HB5 := Lib.hid (HB.out.trans (hb.mono HB.out.size)); clear hk hb hs))
      have HS := Lib.hid (show GnRel w w5 f R w1.heap.size nn n n (List.replicate n false) from ⟨HB5.out, by have := HK5.out; rw [bv, List.map_replicate]; exact this, HB.out.size, by simp, HR.out⟩)
      clear HK5 HB5 HB HR HM HV
      generalize w1.heap.size = g at *
      generalize List.replicate n false = g0 at *
      go_loopw [10] (fun s10 wr => ∃ (k : Nat) (gone : List Bool), k ≤ n ∧ s10 = .int .i64 ((k : Int) - 1) ∧ GnRel w wr f R g nn n k gone) (fun s10 _ => (intOf s10 + 1).toNat)
      case atStart => exact ⟨n, g0, Nat.le_refl _, rfl, HS.out⟩
      case round =>
        clear HS
        obtain ⟨k, gone, hk, rfl, hq⟩ := hrel
        have HQ := Lib.hid hq
        clear hq
        cases k with
        | zero =>
          have e : (((0 : Nat) : Int) - 1) = -1 := rfl
          rw [e]
          clear e
          have hrest : gone = R := by have := HQ.out.rest; rw [goneFrom] at this; exact this
          subst hrest
          go_wp2
          have HS2 := Lib.hid (show StRel w (wr.alloc (.cells #[] 3)) gone g n 0 (some ⟨wr.heap.size, 0, none⟩) 0 0 from ⟨HQ.out.below.alloc HQ.out.below.size _, HQ.out.blk.alloc _, Own.lit 3 #[] 0 HQ.out.below.size (by omega) rfl, Nat.le_refl _, fun e => by have := HQ.out.blk.lt; have e' : wr.heap.size = g := (by simpa [obl] using e); omega⟩)
          go_loopw [13, 14] (fun s13 s14 w2 => ∃ (j n0 c0 : Nat) (A0 : Option Addr), j ≤ n ∧ s14 = .int .i64 j ∧ s13 = .slice A0 n0 c0 ∧ StRel w w2 gone g n j A0 n0 c0) (fun _ s14 _ => n - (intOf s14).toNat)
          case atStart => exact ⟨0, 0, 0, _, Nat.zero_le _, rfl, rfl, HS2.out⟩
          case round =>
            clear HS2
            obtain ⟨j, n0, c0, A0, hj, rfl, rfl, hq⟩ := hrel
            obtain ⟨wo, rfl⟩ : ∃ wo : World, wo = wr := ⟨_, rfl⟩
            have HQ2 := Lib.hid hq
            have hn0 := hq.len
            have hcap0 := hq.own.cap
            clear hq
            by_cases hlt : j < n
            · have hcell : wo.cell? ⟨g, j, none⟩ = some (.bool (gone.getD j false)) := by
                rw [HQ2.out.blk.cell, bv_get (by have := HRl.out; omega)]
              have hx : gone[j]? = some (gone.getD j false) := by
                have : j < gone.length := by have := HRl.out; omega
                simp [this]
              have HX := Lib.hid (stay_snoc (b := 0) hx)
              clear hx
              cases hb : gone.getD j false
              · rw [hb] at HX hcell
                clear hb
                go_wp2_with (at_builtin; refine wpList_push rfl (.tmp 64) (.tmp 66) 32 rfl app32 w.heap.size A0 n0 c0 ((stayF (gone.take j) 0).map (Value.int .i64)) rfl (HQ2.out.own.alloc _) wo.heap.size (.int .i64 (j : Int)) rfl ((Blk.new wo 3 _).cell 0) rfl (by omega) (by omega) (by have := HQ2.out.below.size; simp; omega) ?_; intro A9 c9 w9 hown hgr hob; have HO9 := Lib.hid hown; have HG9 := Lib.hid hgr; have HN9 := Lib.hid hob; clear hown hgr hob)
                go_roundw
                case rel =>
                  refine ⟨j + 1, n0 + 1, c9, A9, by omega, by go_num, rfl, (HQ2.out.below.alloc HQ2.out.below.size _).grown HG9.out (by have := HQ2.out.below.size; simp; omega) (fun g hg => (HQ2.out.own.lt g hg).1), (HQ2.out.blk.alloc _).grown HG9.out HQ2.out.ne, ?_, by omega, fun e => ?_⟩
                  · rw [HX.out, Nat.zero_add]
                    simpa using HO9.out
                  · rcases HN9.out with e' | e'
                    · rw [e'] at e; exact HQ2.out.ne e
                    · rw [e'] at e
                      have := HQ2.out.blk.lt
                      cases e; simp at this; omega
                case measure => simp [intOf]; omega
              · rw [hb] at HX hcell
                clear hb
                go_wp2
                go_roundw
                case rel =>
                  refine ⟨j + 1, n0, c0, A0, by omega, by go_num, rfl, HQ2.out.below, HQ2.out.blk, ?_, by omega, HQ2.out.ne⟩
                  rw [HX.out, if_pos rfl, List.append_nil]
                  exact HQ2.out.own
                case measure => simp [intOf]; omega
            · obtain rfl : j = n := by omega
              go_wp2
              refine bodyPost_ret (results_tmp3 rfl _ _ _) rfl ?_
              have ho := HQ2.out.own
              rw [List.take_of_length_le (by have := HRl.out; omega)] at ho
              exact ⟨A0, n0, c0, rfl, ho.r1 (fun _ _ => trivial) (by omega) (fun x hx => by have := stay_bound hx; have := HRl.out; unfold I64; omega), HQ2.out.below⟩
        | succ k =>
          have e : (((k + 1 : Nat) : Int) - 1) = (k : Int) := by omega
          rw [e]
          clear e
          have HLf := Lib.hid fun W (hb : Below w.heap.size w W) (hr : RB W (fun _ => True) (some ⟨g, 0, none⟩) n n (gone.set k true)) => left_c K (fun _ => True) A (some ⟨g, 0, none⟩) n c n f (gone.set k true) W (HF.out.below hb) hr (by omega)
          go_wp2_with (first | (refine wpList_store_at rfl 4 (.tmp 38) (.const (.bool true)) rfl rfl g k (.bool true) (bv gone) 4 rfl rfl HQ.out.blk (by have := HQ.out.len; rw [bv_size]; omega) (by kernel_rfl) rfl ?_; intro w6 hb6 ho6; have HB6 := Lib.hid (show Blk w6 g 4 (bv (gone.set k true)) by rw [bv_set] at hb6; exact hb6); have HO6 := Lib.hid (below_only HQ.out.below ho6 HQ.out.lo); clear hb6 ho6) | (go_at_call 56; refine (HLf.out w6 HO6.out (HB6.out.rb (by have := HQ.out.len; simpa using this) (Nat.le_refl _) (by omega) (by omega))).mono ?_; rintro e w7 ⟨lA, ln, lc, rfl, hl, hb⟩; have HB7 := Lib.hid (HO6.out.trans (hb.mono HO6.out.size)); have HK7 := Lib.hid (HB6.out.old hb); have HM7 := Lib.hid (model_c _ lA ln lc nn (leftF f (gone.set k true)) w7 hl (HPt.out _) h16); clear hl hb))
          cases hr : rleast (leftF f (gone.set k true)) nn with
          | none =>
            rw [hr] at HM7
            have HI := Lib.hid (show (rleast (leftF f (gone.set k true)) nn).isNone = true by rw [hr]; rfl)
            clear hr
            go_wp2_with (first | (go_at_call 39; refine HM7.out.mono ?_; rintro e w8 ⟨rfl, hb⟩; have HB8 := Lib.hid (HB7.out.trans (hb.mono HB7.out.size)); have HK8 := Lib.hid (HK7.out.old hb); clear hb) | (refine wpList_store_at rfl 4 (.tmp 51) (.tmp 50) rfl rfl g k (.bool true) (bv (gone.set k true)) 4 rfl rfl HK8.out (by have := HQ.out.len; rw [bv_size, List.length_set]; omega) (by kernel_rfl) rfl ?_; intro w9 hb9 ho9; have HK9 := Lib.hid hb9; have HB9 := Lib.hid (below_only HB8.out ho9 HQ.out.lo); clear hb9 ho9))
            go_roundw
            case rel => exact ⟨k, gone.set k true, by omega, by go_num, HQ.out.next HI.out HB9.out HK9.out⟩
            case measure => simp [intOf] <;> omega
          | some x =>
            rw [hr] at HM7
            have HI := Lib.hid (show (rleast (leftF f (gone.set k true)) nn).isNone = false by rw [hr]; rfl)
            clear hr
            go_wp2_with (first | (go_at_call 39; refine HM7.out.mono ?_; rintro e w8 ⟨mA, mn, mc, rfl, hm, hb⟩; have HB8 := Lib.hid (HB7.out.trans (hb.mono HB7.out.size)); have HK8 := Lib.hid (HK7.out.old hb); clear hb hm) | (refine wpList_store_at rfl 4 (.tmp 51) (.tmp 50) rfl rfl g k (.bool false) (bv (gone.set k true)) 4 rfl rfl HK8.out (by have := HQ.out.len; rw [bv_size, List.length_set]; omega) (by kernel_rfl) rfl ?_; intro w9 hb9 ho9; have HK9 := Lib.hid hb9; have HB9 := Lib.hid (below_only HB8.out ho9 HQ.out.lo); clear hb9 ho9))
            go_roundw
            case rel => exact ⟨k, gone.set k false, by omega, by go_num, HQ.out.next HI.out HB9.out HK9.out⟩
            case measure => simp [intOf] <;> omega

end Go.Proofs.Ytekbkdbmkjdgbaa
