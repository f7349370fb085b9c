/- The walk of Core. -/
import Derived.Test.YtekbkdbmkjdgbaaW10
import Derived.Test.YtekbkdbmkjdgbaaW12
namespace Go.Proofs.Ytekbkdbmkjdgbaa
open Go.RowKit

def CorePost (w : World) (r : List Int × Bool × Int) (e : Ending) (w' : World) : Prop :=
  ∃ A n c, e = .returned (.tuple #[.slice A n c, .bool r.2.1, .int .i64 r.2.2]) ∧ R1 w' (fun _ => True) A n c r.1 ∧ Below w.heap.size w w'

theorem coreF_stop {f : List (List Int)} {m : Int} {ms : List Bool} {L : List (List Int)} {ok : Bool} {er : Int} (h : solveF f m = (ms, L, ok, er)) (hs : ok = true ∨ er ≠ 0) : coreF f m = ([], false, er) := by
  rw [coreF, h]
  have : (ok || er != 0) = true := by
    rcases hs with rfl | hs
    · rfl
    · simp [hs]
  dsimp only
  rw [this]; rfl
theorem coreF_go {f : List (List Int)} {m : Int} {ms : List Bool} {L : List (List Int)} (h : solveF f m = (ms, L, false, 0)) : coreF f m = (coreFrom f m f.length ((List.range f.length).map fun i : Nat => (i : Int)), true, 0) := by
  rw [coreF, h]; rfl

theorem coreFrom_step (f : List (List Int)) (m : Int) (i : Nat) (left : List Int) : coreFrom f m (i + 1) left = coreFrom f m i (if (solveF (pickF f (left.filter (· != (i : Int)))) m).2.2.1 then left else left.filter (· != (i : Int))) := by
  rw [coreFrom]

theorem iota_row (n k : Nat) : ((List.range n).map fun v => Value.int .i64 (if v < k then (v : Int) else 0)).toArray.setIfInBounds k (.int .i64 k) =
    ((List.range n).map fun v => Value.int .i64 (if v < k + 1 then (v : Int) else 0)).toArray := by
  rw [List.setIfInBounds_toArray]
  congr 1
  apply List.ext_getElem
  · simp
  · intro i h1 h2
    rw [List.getElem_set]
    simp only [List.getElem_map, List.getElem_range]
    by_cases e : k = i
    · subst e; simp
    · rw [if_neg e]
      by_cases h : i < k
      · rw [if_pos h, if_pos (by omega)]
      · rw [if_neg h, if_neg (by omega)]
theorem info3 : (Try.prog.info? 3).map (fun i => (i.zero, i.size, i.bytes)) = some (some (.int .i64 0), 1, 8) := by kernel_rfl

structure IotaRel (w wr : World) (b n k : Nat) : Prop where
  below : Below w.heap.size w wr
  row : Blk wr b 3 ((List.range n).map fun v => Value.int .i64 (if v < k then (v : Int) else 0)).toArray
  lo : w.heap.size ≤ b

structure LeftRel (w wr : World) (f : List (List Int)) (m : Int) (R : List Int) (i bi : Nat) (A1 : Option Addr) (n1 c1 : Nat) : Prop where
  below : Below w.heap.size w wr
  var : Blk wr bi 3 #[.int .i64 ((i : Int) - 1)]
  lo : w.heap.size ≤ bi
  ex : ∃ is, Own wr w.heap.size 3 A1 n1 c1 (is.map (Value.int .i64)) ∧ coreFrom f m i is = R ∧ (∀ x ∈ is, 0 ≤ x ∧ x < f.length) ∧ is.length ≤ f.length
  ne : obl A1 ≠ some bi


structure PickRel (w w5 wr : World) (f : List (List Int)) (is : List Int) (j : Nat) (A : Option Addr) (c : Nat) : Prop where
  below : Below w5.heap.size w5 wr
  ex : ∃ us, Own wr w5.heap.size 32 A j c us ∧ All1 wr (fun k => k < w.heap.size) us (pickF f (is.take j))

theorem pick_snoc {f : List (List Int)} {is : List Int} {j q : Nat} {x : List Int} (h : is[j]? = some (q : Int)) (hx : f[q]? = some x) : pickF f (is.take (j + 1)) = pickF f (is.take j) ++ [x] := by
  rw [take_snoc_of h, pickF, List.map_append, List.map_singleton]
  have : f.getD (q : Int).toNat [] = x := by
    simp [List.getD_eq_getElem?_getD, hx]
  rw [this]; rfl

theorem Own.base {w : World} {b b' : Nat} {e : TypeId} {A : Option Addr} {n c : Nat} {xs : List Value} (h : Own w b e A n c xs) (hb : b' ≤ b) : Own w b' e A n c xs :=
  ⟨h.1, by
    rcases h.2 with h0 | ⟨g, cap, cur, h1, h2, h3⟩
    · exact .inl h0
    · exact .inr ⟨g, cap, cur, h1, by omega, h3⟩⟩

theorem left_next {w w7 : World} {f : List (List Int)} {m : Int} {R is : List Int} {k : Nat} {A : Option Addr} {n c : Nat} (hB : Below w.heap.size w w7) (ho : Own w7 w.heap.size 3 A n c (is.map (Value.int .i64))) (hr : coreFrom f m k is = R)
    (h1 : ∀ x ∈ is, 0 ≤ x ∧ x < f.length) (h2 : is.length ≤ f.length) : LeftRel w (w7.alloc (.cells #[.int .i64 ((k : Int) - 1)] 3)) f m R k w7.heap.size A n c :=
  ⟨hB.alloc hB.size _, Blk.new w7 3 _, hB.size, ⟨is, ho.alloc _, hr, h1, h2⟩, fun e => by have := (ho.lt _ e).2; omega⟩

set_option maxHeartbeats 1000000 in
/-- 'Core'. -/
theorem core_c (K : Nat → Prop) (A : Option Addr) (n c : Nat) (f : List (List Int)) (m : Int) (w : World) (h : R2 w K A n c f) (hm1 : -9223372036854775808 ≤ m) (hm2 : m ≤ 9223372036854775807) :
    Calls Try.prog 28 #[.slice A n c, .int .i64 m] w (CorePost w (coreF f m)) := by
  obtain ⟨ms, L, ok, er, hsv⟩ : ∃ ms L ok er, solveF f m = (ms, L, ok, er) := ⟨_, _, _, _, rfl⟩
  have HSv := Lib.hid (solve_c K A n c f m w h hm1 hm2)
  rw [hsv] at HSv
  have hlen := h.len
  have hcap := h.cap
  have HLen := Lib.hid hlen
  by_cases hstop : ok = true ∨ er ≠ 0
  · rw [coreF_stop hsv hstop]
    clear h hsv hlen
    cases ok with
    | true =>
      clear hstop
      go_enter Try.func28, Try.ntmps28
      go_wp2_with fail
      refine HSv.out.mono ?_
      rintro e w1 ⟨mA, mn, mc, pA, pn, pc, rfl, _, _, hb⟩
      have HB1 := Lib.hid hb
      clear hb
      go_wp2
      refine bodyPost_ret (results_tmp3 rfl _ _ _) rfl ?_
      exact ⟨none, 0, 0, rfl, R1.nil_ _ _, HB1.out⟩
    | false =>
      have her : er ≠ 0 := by simpa using hstop
      have b1 : (er != 0) = true := by simp [her]
      have b2 : (er == 0) = false := by simp [her]
      clear hstop her
      go_enter Try.func28, Try.ntmps28
      go_wp2_with fail
      refine HSv.out.mono ?_
      rintro e w1 ⟨mA, mn, mc, pA, pn, pc, rfl, _, _, hb⟩
      have HB1 := Lib.hid hb
      clear hb
      go_wp2
      refine bodyPost_ret (results_tmp3 rfl _ _ _) rfl ?_
      exact ⟨none, 0, 0, rfl, R1.nil_ _ _, HB1.out⟩
  · have hok : ok = false := by cases ok <;> simp_all
    have her : er = 0 := by
      by_cases e : er = 0
      · exact e
      · exact absurd (.inr e) hstop
    subst hok her
    rw [coreF_go hsv]
    have hv : validB f m = true := by
      cases hv : validB f m
      · rw [solveF, hv] at hsv; cases hsv
      · rfl
    have hn200 : n ≤ 200 := by
      simp only [validB, Bool.and_eq_true, decide_eq_true_eq] at hv
      omega
    have hK := h.weak (K' := fun k => k < w.heap.size) fun k hk _ => hk
    have HK := Lib.hid hK
    generalize hR : coreFrom f m f.length ((List.range f.length).map fun i : Nat => (i : Int)) = R
    have HR := Lib.hid hR
    clear h hsv hlen hstop hv hK hR
    go_enter Try.func28, Try.ntmps28
    go_wp2_with fail
    refine HSv.out.mono ?_
    rintro e w1 ⟨mA, mn, mc, pA, pn, pc, rfl, _, _, hb⟩
    have HB1 := Lib.hid hb
    clear hb HSv
    go_wp2_with (refine wpList_makeFull rfl (.tmp 37) (.tmp 37) 32 rfl (.int .i64 0) Try.underlying32 info3 rfl n rfl rfl (by omega) (by omega) ?_; intro w2 hk hb hs; have HK2 := Lib.hid hk; have HB2 := Lib.hid (HB1.out.trans (hb.mono HB1.out.size)); clear hk hb hs)
    have hi0 : IotaRel w w2 w1.heap.size n 0 := ⟨HB2.out, by
      have h5 := HK2.out
      have e : (List.replicate n (Value.int .i64 0)) = (List.range n).map fun v : Nat => Value.int .i64 (if v < 0 then (v : Int) else 0) := by
        apply List.ext_getElem
        · simp
        · intro i h1 h2; simp
      rw [← e]; exact h5, HB1.out.size⟩
    have HI0 := Lib.hid hi0
    clear hi0 HK2 HB2
    generalize w1.heap.size = b1 at *
    go_loopw [41] (fun s41 wr => ∃ k : Nat, k ≤ n ∧ s41 = .int .i64 k ∧ IotaRel w wr b1 n k) (fun s41 _ => n - (intOf s41).toNat)
    case atStart => exact ⟨0, Nat.zero_le _, rfl, HI0.out⟩
    case round =>
      clear HI0
      obtain ⟨k, hk, rfl, hq⟩ := hrel
      have HQ := Lib.hid hq
      clear hq
      by_cases hlt : k < n
      · have HMk := Lib.hid (iota_row n k)
        go_wp2_with (refine wpList_store_at rfl 3 (.tmp 47) (.tmp 46) rfl rfl b1 k (.int .i64 k) _ 3 rfl rfl HQ.out.row (by simpa using hlt) (by kernel_rfl) rfl ?_; intro w6 hb6 ho6; have HB6 := Lib.hid hb6; have HO6 := Lib.hid ho6; clear hb6 ho6)
        go_roundw
        case rel =>
          refine ⟨k + 1, by omega, by go_num, below_only HQ.out.below HO6.out HQ.out.lo, ?_, HQ.out.lo⟩
          rw [← HMk.out]; exact HB6.out
        case measure => simp [intOf]; omega
      · obtain rfl : n = k := by omega
        have hall : ∀ x ∈ (List.range f.length).map (fun i : Nat => (i : Int)), 0 ≤ x ∧ x < f.length := fun x hx => by
          obtain ⟨q, hq, rfl⟩ := List.mem_map.1 hx
          have := List.mem_range.1 hq
          omega
        have hown : Own wr w.heap.size 3 (some ⟨b1, 0, none⟩) n n (((List.range f.length).map (fun i : Nat => (i : Int))).map (Value.int .i64)) := by
          have hrow := HQ.out.row
          have e : ((List.range n).map fun v : Nat => Value.int .i64 (if v < n then (v : Int) else 0)) = ((List.range f.length).map (fun i : Nat => (i : Int))).map (Value.int .i64) := by
            rw [List.map_map, HLen.out]
            refine List.map_congr_left fun v hv => ?_
            rw [if_pos (List.mem_range.1 hv)]; rfl
          rw [e] at hrow
          have hle : (((List.range f.length).map (fun i : Nat => (i : Int))).map (Value.int .i64)).length = n := by simp [HLen.out]
          exact ⟨by rw [hle]; omega, .inr ⟨b1, n, _, rfl, HQ.out.lo, hrow, Nat.le_refl _, by unfold maxLen; omega, by rw [List.size_toArray, hle]; omega, by rw [Nat.mul_one]; exact List.take_of_length_le (by rw [hle]; exact Nat.le_refl _)⟩⟩
        have HAll := Lib.hid hall
        have HOwn := Lib.hid hown
        have hbl : b1 < wr.heap.size := HQ.out.row.lt
        clear hall hown
        obtain ⟨w3, rfl⟩ : ∃ w3 : World, w3 = wr := ⟨_, rfl⟩
        go_wp2
        have hl0 : LeftRel w (w3.alloc (.cells #[.int .i64 ((n : Int) - 1)] 3)) f m R n w3.heap.size (some ⟨b1, 0, none⟩) n n :=
          ⟨HQ.out.below.alloc HQ.out.below.size _, Blk.new w3 3 _, HQ.out.below.size, ⟨_, HOwn.out.alloc _, by rw [← HR.out, HLen.out], HAll.out, by simp⟩, by
            intro e
            have e1 : b1 = w3.heap.size := by simpa [obl] using e
            omega⟩
        have HL0 := Lib.hid hl0
        clear hl0 HOwn HAll HR HQ
        go_loopg [11, 13] n (fun g s11 s13 wr => ∃ (bi : Nat) (A1 : Option Addr) (n1 c1 : Nat), g ≤ n ∧ s11 = .slice A1 n1 c1 ∧ s13 = .pointer (some ⟨bi, 0, none⟩) ∧ LeftRel w wr f m R g bi A1 n1 c1)
        case atStart => exact ⟨_, _, _, _, Nat.le_refl _, rfl, rfl, HL0.out⟩
        case round =>
          clear HL0
          obtain ⟨bi, A1, n1, c1, hg, rfl, rfl, hq⟩ := hrel
          have HQ := Lib.hid hq
          have hcell := hq.var.cell 0
          clear hq
          cases gk with
          | zero =>
            have hcell' : wr.cell? ⟨bi, 0, none⟩ = some (.int .i64 (-1)) := hcell
            clear hcell
            go_wp2
            refine bodyPost_ret (results_tmp3 rfl _ _ _) rfl ?_
            obtain ⟨is, h1, h2, h3, h4⟩ := HQ.out.ex
            rw [coreFrom] at h2
            subst h2
            exact ⟨_, _, _, rfl, h1.r1 (fun _ _ => trivial) (by have := h1.len; have := HLen.out; simp at *; omega) (fun x hx => by have := h3 x hx; have := HLen.out; unfold I64; omega), HQ.out.below⟩
          | succ k =>
            have hcell' : wr.cell? ⟨bi, 0, none⟩ = some (.int .i64 (k : Int)) := by
              rw [hcell]
              have : (((k + 1 : Nat) : Int) - 1) = (k : Int) := by omega
              simp
            clear hcell
            obtain ⟨is, i1, i2, i3, i4⟩ := HQ.out.ex
            have hwf : ∀ x ∈ is, I64 x := fun x hx => by have := i3 x hx; have := HLen.out; unfold I64; omega
            have hn1 : n1 ≤ 200 := by have := i1.len; have := HLen.out; simp at *; omega
            have HCl := Lib.hid (clone1_c (fun _ => True) A1 n1 c1 is wr (i1.r1 (fun _ _ => trivial) (by omega) hwf) (by omega))
            have HWf := Lib.hid hwf
            have HI := Lib.hid (And.intro i1 (And.intro i2 (And.intro i3 i4)))
            have hbil := HQ.out.var.lt
            clear hwf i1 i2 i3 i4
            go_wp2_with fail
            refine HCl.out.mono ?_
            rintro e w4 ⟨A2, n2, c2, rfl, ho, hb⟩
            have HO2 := Lib.hid ho
            have HB4 := Lib.hid hb
            have hn2 : n2 = is.length := by have := ho.len; simp at this; omega
            have hn2' : n2 ≤ 200 := by have := HI.out.2.2.2; have := HLen.out; omega
            clear ho hb HCl hn2
            have hv4 : Blk w4 bi 3 #[.int .i64 (k : Int)] := by
              have := HQ.out.var.old HB4.out
              have e : (((k + 1 : Nat) : Int) - 1) = (k : Int) := by omega
              rw [e] at this; exact this
            have hne2 : obl A2 ≠ some bi := fun e => by have := (HO2.out.lt bi e).1; omega
            have HDe := Lib.hid (delete_c wr.heap.size A2 n2 c2 is bi k w4 HO2.out hv4 hne2 (by omega) HWf.out)
            have HV4 := Lib.hid hv4
            clear hv4 hne2
            go_wp2_with fail
            refine HDe.out.mono ?_
            rintro e w5 ⟨n3, rfl, ho, hgr⟩
            have hb5 : Below wr.heap.size wr w5 := HB4.out.grown hgr HB4.out.size (fun g hg => (HO2.out.lt g hg).1)
            have hr3 : R1 w5 (fun _ => True) A2 n3 c2 (is.filter (· != (k : Int))) := ho.r1 (fun _ _ => trivial) (by
              have := ho.len
              have h1 := List.length_filter_le (· != (k : Int)) is
              have := HI.out.2.2.2
              have := HLen.out
              simp at this ⊢; simp at *; omega) (fun x hx => HWf.out x (List.mem_filter.1 hx).1)
            have HO3 := Lib.hid ho
            have HB5 := Lib.hid hb5
            have HR3 := Lib.hid hr3
            clear ho hgr hb5 hr3 HDe HO2
            have hst : coreFrom f m k (if (solveF (pickF f (is.filter (· != (k : Int)))) m).2.2.1 then is else is.filter (· != (k : Int))) = R := by
              rw [← coreFrom_step]; exact HI.out.2.1
            have hrr : ∀ x ∈ is.filter (· != (k : Int)), 0 ≤ x ∧ x < f.length := fun x hx => HI.out.2.2.1 x (List.mem_filter.1 hx).1
            have hrl : (is.filter (· != (k : Int))).length ≤ f.length := Nat.le_trans (List.length_filter_le _ _) HI.out.2.2.2
            have HSt := Lib.hid hst
            have HRr := Lib.hid hrr
            have HRl := Lib.hid hrl
            clear hst hrr hrl
            generalize is.filter (· != (k : Int)) = rest at *
            have hn3 : n3 ≤ 200 := by have := HR3.out.len; have := HRl.out; have := HLen.out; omega
            have hn3c := HR3.out.cap
            have hBs : w.heap.size ≤ wr.heap.size := HQ.out.below.size
            have hBs5 : wr.heap.size ≤ w5.heap.size := HB5.out.size
            go_wp2
            have HP0 := Lib.hid (show PickRel w w5 w5 f rest 0 none 0 from ⟨Below.refl _ _, [], Own.nil_ _ _ _, All1.nil_ _ _⟩)
            go_loopw [15, 62] (fun s15 s62 wr => ∃ (j : Nat) (A3 : Option Addr) (c3 : Nat), j ≤ n3 ∧ s62 = .int .i64 j ∧ s15 = .slice A3 j c3 ∧ PickRel w w5 wr f rest j A3 c3) (fun _ s62 _ => n3 - (intOf s62).toNat)
            case atStart => exact ⟨0, none, 0, Nat.zero_le _, rfl, rfl, HP0.out⟩
            case round =>
              clear HP0
              obtain ⟨j, A3, c3, hj, rfl, rfl, hq⟩ := hrel
              obtain ⟨w6, rfl⟩ : ∃ w6 : World, w6 = wr := ⟨_, rfl⟩
              have HP := Lib.hid hq
              have HB6 := Lib.hid ((HQ.out.below.trans (HB5.out.mono hBs)).trans (hq.below.mono (by omega)))
              clear hq
              by_cases hlj : j < n3
              · obtain ⟨ad, x, rfl, _, hx, hwx, hcx⟩ := (HR3.out.below HP.out.below).at_ hlj
                obtain ⟨hx0, hx1⟩ := HRr.out x (List.mem_of_getElem? hx)
                obtain ⟨q, rfl⟩ : ∃ q : Nat, x = q := ⟨x.toNat, by omega⟩
                have hqn : q < n := by have := HLen.out; omega
                obtain ⟨adf, y, yA, yn, yc, rfl, hKy, hy, hcy, hy1⟩ := (HK.out.below HB6.out).at_ hqn
                obtain ⟨us, p1, p2⟩ := HP.out.ex
                have HP1 := Lib.hid p1
                have HP2 := Lib.hid p2
                have HX := Lib.hid (pick_snoc hx hy)
                have HY1 := Lib.hid hy1
                have hyn := hy1.big
                have hyc := hy1.cap
                clear hx hy hy1 p1 p2 hwx hKy
                go_wp2_with (at_builtin; refine wpList_push rfl (.tmp 66) (.tmp 71) 22 rfl app22 w5.heap.size A3 j c3 us rfl (HP1.out.alloc _) w6.heap.size (.slice yA yn yc) rfl ((Blk.new w6 32 _).cell 0) rfl (by omega) (by omega) (by have := HP.out.below.size; simp; omega) ?_; intro A9 c9 w9 hown hgr hob; have HO9 := Lib.hid hown; have HG9 := Lib.hid hgr; clear hown hgr hob)
                have hb9 : Below w5.heap.size w5 w9 := (HP.out.below.alloc HP.out.below.size _).grown HG9.out (by have := HP.out.below.size; simp; omega) (fun g hg => (HP1.out.lt g hg).1)
                have hold : Old (fun q => q < w.heap.size) w6 w9 := fun q hq hlt => by
                  rw [HG9.out.block q (by simp; omega) (fun e => by have := (HP1.out.lt q e.symm).1; omega), Below.heap_alloc _ _ _ hlt]
                have HB9 := Lib.hid hb9
                have HOld := Lib.hid hold
                clear hb9 hold
                go_roundw
                case rel =>
                  refine ⟨j + 1, A9, c9, by omega, by go_num, rfl, HB9.out, _, HO9.out, ?_⟩
                  rw [HX.out]
                  exact (HP2.out.old HOld.out).snoc ((show In1 w6 (fun q => q < w.heap.size) (.slice yA yn yc) y from ⟨yA, yn, yc, rfl, HY1.out⟩).old HOld.out)
                case measure => simp [intOf]; omega
              · obtain rfl : n3 = j := by omega
                have hg2 : R2 w6 (fun _ => True) A3 n3 c3 (pickF f rest) := by
                  obtain ⟨us, p1, p2⟩ := HP.out.ex
                  rw [List.take_of_length_le (by have := HR3.out.len; omega)] at p2
                  exact p1.r2 (fun _ _ => trivial) (by omega) (p2.weak fun _ _ _ => trivial)
                generalize hsv : solveF (pickF f rest) m = sv at *
                have HS2 := Lib.hid (solve_c (fun _ => True) A3 n3 c3 (pickF f rest) m w6 hg2 hm1 hm2)
                rw [hsv] at HS2
                clear hg2 hsv
                obtain ⟨ms2, L2, ok2, er2⟩ := sv
                have hc6 : w6.cell? ⟨bi, 0, none⟩ = some (.int .i64 (k : Int)) := by
                  rw [HP.out.below.cell (by show bi < _; omega), HB5.out.cell hbil]
                  exact hcell'
                go_wp2_with fail
                refine HS2.out.mono ?_
                rintro e w7 ⟨mA2, mn2, mc2, pA2, pn2, pc2, rfl, _, _, hb⟩
                have hc7 : w7.cell? ⟨bi, 0, none⟩ = some (.int .i64 (k : Int)) := by
                  rw [hb.cell (by have := HP.out.below.size; show bi < _; omega)]; exact hc6
                have HB7 := Lib.hid (HB6.out.trans (hb.mono (by have := HP.out.below.size; omega)))
                have HB57 := Lib.hid (HP.out.below.trans (hb.mono HP.out.below.size))
                clear hb HS2 hc6 hcell'
                cases ok2 with
                | true =>
                  go_wp2
                  go_roundg k
                  case measure => go_light; omega
                  case rel =>
                    go_light
                    exact ⟨_, _, _, _, by omega, rfl, rfl, left_next HB7.out ((HI.out.1.below (HB5.out.trans (HB57.out.mono hBs5)))) (by simpa using HSt.out) HI.out.2.2.1 HI.out.2.2.2⟩
                | false =>
                  go_wp2
                  go_roundg k
                  case measure => go_light; omega
                  case rel =>
                    go_light
                    exact ⟨_, _, _, _, by omega, rfl, rfl, left_next HB7.out ((HO3.out.base hBs).below HB57.out) (by simpa using HSt.out) HRr.out HRl.out⟩

end Go.Proofs.Ytekbkdbmkjdgbaa
