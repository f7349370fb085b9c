/- The walk of Solve. -/
import Derived.Test.YtekbkdbmkjdgbaaW9
import Derived.Test.YtekbkdbmkjdgbaaW7
namespace Go.Proofs.Ytekbkdbmkjdgbaa
open Go.RowKit

theorem find_all : ∀ k, FindSaid k
  | 0 => fun _ _ _ _ _ _ _ _ _ _ _ _ _ _ _ _ _ _ _ _ _ _ hz => absurd hz (Nat.not_lt_zero _)
  | k + 1 => find_c k (find_all k)

theorem results_tmp4 {fn : Func} {t u v x : Tmp} (h : fn.results = #[.tmp t, .tmp u, .tmp v, .tmp x]) (tmps : Array Value) (P : Program) (w : World) :
    (results fn tmps).run P w = .ok (.tuple #[tmps.getD t undef, tmps.getD u undef, tmps.getD v undef, tmps.getD x undef]) w := by simp [results, h]

def SolvePost (w : World) (r : List Bool × List (List Int) × Bool × Int) (e : Ending) (w' : World) : Prop :=
  ∃ mA mn mc pA pn pc, e = .returned (.tuple #[.slice mA mn mc, .slice pA pn pc, .bool r.2.2.1, .int .i64 r.2.2.2]) ∧ RB w' (fun _ => True) mA mn mc r.1 ∧ R2 w' (fun _ => True) pA pn pc r.2.1 ∧ Below w.heap.size w w'

theorem RB.nil_ (w : World) (K : Nat → Prop) : RB w K none 0 0 [] := ⟨rfl, Nat.le_refl _, by omega, by omega, fun j u hu => by simp at hu⟩
theorem R1.nil_ (w : World) (K : Nat → Prop) : R1 w K none 0 0 [] := ⟨rfl, Nat.le_refl _, by omega, by omega, by simp, fun j u hu => by simp at hu⟩
theorem R2.nil_ (w : World) (K : Nat → Prop) : R2 w K none 0 0 [] := ⟨rfl, Nat.le_refl _, by omega, by omega, [], fun j u hu => by simp at hu, All1.nil_ _ _⟩

theorem Chg.toBelow {g : Nat} {fA lA : Option Addr} {w0 w w' : World} (hb : Below w0.heap.size w0 w) (h : Chg g fA lA w w') (hk : ∀ k, k < w0.heap.size → NK g fA lA k) : Below w0.heap.size w0 w' :=
  hb.trans ⟨h.os, h.tape, h.output, h.size, fun k hlt => h.old k (hk k hlt) (Nat.lt_of_lt_of_le hlt hb.size)⟩

structure MkRel (w wr : World) (g9 b n : Nat) (a : List Int) (k : Nat) : Prop where
  below : Below w.heap.size w wr
  cur : Blk wr g9 55 (pv a)
  row : Blk wr b 4 ((List.range n).map fun v => if v < k then Value.bool (decide (0 < a.getD (v + 1) 0)) else .bool false).toArray
  ne : g9 ≠ b
  lo : w.heap.size ≤ b

theorem below_drewN {B : Nat} {a w : World} (h : Below B a w) (n : Nat) : Below B a (w.drewN n) := ⟨h.os, h.tape, h.output, h.size, h.block⟩

/-- what Solve makes of the search -/
def ofSearch (n : Nat) : Option (List Int) × List (List Int) → List Bool × List (List Int) × Bool × Int
  | (some a, _) => (modelF n a, [], true, 0)
  | (none, L) => ([], L, false, 0)
theorem solveF_valid {f : List (List Int)} {n : Nat} (h : validB f (n : Int) = true) : solveF f (n : Int) = ofSearch n (findF n f 18 [] []) := by
  rw [solveF, h, if_pos rfl, Int.toNat_natCast]
  generalize findF n f 18 [] [] = r
  obtain ⟨o, L⟩ := r
  cases o <;> rfl
theorem info4 : (Try.prog.info? 4).map (fun i => (i.zero, i.size, i.bytes)) = some (some (.bool false), 1, 1) := by kernel_rfl

theorem Blk.sl {w : World} {K : Nat → Prop} {b : Nat} {t : TypeId} {xs : List Value} (h : Blk w b t xs.toArray) (hK : K b) : Sl w K (some ⟨b, 0, none⟩) xs := fun j u hu => by
  refine ⟨_, rfl, hK, ?_⟩
  have e : (⟨b, 0, none⟩ : Addr).add j = ⟨b, j, none⟩ := by unfold Addr.add; split <;> simp_all
  rw [e, h.cell]
  simpa using hu
theorem mk_row (n k : Nat) (a : List Int) : ((List.range n).map fun v => if v < k then Value.bool (decide (0 < a.getD (v + 1) 0)) else .bool false).toArray.setIfInBounds k (.bool (decide (0 < a.getD (k + 1) 0))) =
    ((List.range n).map fun v => if v < k + 1 then Value.bool (decide (0 < a.getD (v + 1) 0)) else .bool false).toArray := by
  rw [List.setIfInBounds_toArray]
  congr 1
  apply List.ext_getElem
  · simp
  · intro i h1 h2
    rw [List.getElem_set]
    simp only [List.getElem_map, List.getElem_range]
    by_cases e : k = i
    · subst e; simp
    · rw [if_neg e]
      by_cases h : i < k
      · rw [if_pos h, if_pos (by omega)]
      · rw [if_neg h, if_neg (by omega)]

theorem zc_zeros : zc zeros = 17 := by decide
theorem pow18 : 2 ^ 18 = 262144 := by decide
theorem find_top (B g nn : Nat) (f : List (List Int)) (A2 : Option Addr) (n2 c2 : Nat) (w : World) (hB : B ≤ w.heap.size) (hsr : Srch w B g nn f [] A2 n2 c2 none 0 0) (hnn : nn ≤ 16)
    (hW : (f ++ []).all (fun c => c.all (wi nn)) = true) (h200 : f.length ≤ 200) (o : Option (List Int)) (L : List (List Int)) (ho : findF nn f 18 [] [] = (o, L)) :
    Calls Try.prog 38 #[.pointer (some ⟨g, 0, none⟩), .slice none 0 0] w (FindPost B g nn f A2 none o L w) := by
  have h := find_all 18 B g nn f [] A2 none none n2 c2 0 0 0 0 [] zeros w hB hsr (R1.nil_ _ _) rfl rfl (by rw [zc_zeros]; omega) hnn hW h200 (by rw [pow18]; simp) (by rw [zc_zeros]; simp)
  rw [ho] at h
  exact h
theorem find_len18 {nn : Nat} {f L : List (List Int)} {o : Option (List Int)} (h : findF nn f 18 [] [] = (o, L)) : L.length ≤ 262144 := by
  have := findF_len nn f 18 [] []
  rw [h, pow18] at this
  simp at this
  omega

set_option maxHeartbeats 1000000 in
/-- 'Solve'. -/
theorem solve_c (K : Nat → Prop) (A : Option Addr) (n c : Nat) (f : List (List Int)) (m : Int) (w : World) (h : R2 w K A n c f) (hm1 : -9223372036854775808 ≤ m) (hm2 : m ≤ 9223372036854775807) :
    Calls Try.prog 16 #[.slice A n c, .int .i64 m] w (SolvePost w (solveF f m)) := by
  have HV := Lib.hid (valid_c K A n c f m w h hm1 hm2)
  have hK := h.weak (K' := fun k => k < w.heap.size) fun k hk _ => hk
  have HK := Lib.hid hK
  have hlen := h.len
  clear h hK
  cases hv : validB f m
  · rw [hv] at HV
    have hs : solveF f m = ([], [], false, 1) := by rw [solveF, hv]; rfl
    rw [hs]
    clear hs hv HK hlen
    go_enter Try.func16, Try.ntmps16
    go_wp2_with (go_at_call 18; refine HV.out.mono ?_; rintro e w1 ⟨rfl, hb⟩; have HB1 := Lib.hid hb; clear hb)
    refine bodyPost_ret (results_tmp4 rfl _ _ _) rfl ?_
    exact ⟨none, 0, 0, none, 0, 0, rfl, RB.nil_ _ _, R2.nil_ _ _, HB1.out⟩
  · rw [hv] at HV
    have hv1 := hv
    simp only [validB, Bool.and_eq_true, decide_eq_true_eq] at hv1
    obtain ⟨hv0, hv16, hv200, _⟩ := hv1
    obtain ⟨nn, rfl⟩ : ∃ nn : Nat, m = nn := ⟨m.toNat, by omega⟩
    have hs := solveF_valid hv
    have HW := Lib.hid (show (f ++ []).all (fun c => c.all (wi nn)) = true by rw [List.append_nil]; exact valid_wi hv)
    have H200 := Lib.hid hv200
    have hnn : nn ≤ 16 := by omega
    have hn200 : n ≤ 200 := by omega
    obtain ⟨o, L, hoL⟩ : ∃ o L, findF nn f 18 [] [] = (o, L) := ⟨_, _, rfl⟩
    have hfl := find_len18 hoL
    rw [hoL] at hs
    rw [hs]
    have HoL := Lib.hid hoL
    have HFL := Lib.hid hfl
    clear hv hv0 hv16 hv200 hs hoL hfl
    go_enter Try.func16, Try.ntmps16
    go_wp2_with fail
    refine HV.out.mono ?_
    rintro e w1 ⟨rfl, hb⟩
    have HB1 := Lib.hid hb
    clear hb HV
    go_wp2_with fail
    refine (clone2_c (fun k => k < w.heap.size) A n c f w1 (HK.out.below HB1.out) (by omega)).mono ?_
    rintro e w2 ⟨A2, n2, c2, us, rfl, ho, ha, hb⟩
    have HO := Lib.hid ho
    have HA := Lib.hid ha
    have HB2 := Lib.hid (HB1.out.trans (hb.mono HB1.out.size))
    have HS12 := Lib.hid hb.size
    clear ho ha hb
    go_wp2_with fail
    have hbx : Below w2.heap.size w2 (w2.alloc (.cells #[.int .i64 (nn : Int), .slice A2 n2 c2, .slice none 0 0] 53)) := (Below.refl _ _).alloc (Nat.le_refl _) _
    have hnk : ∀ k, k < w.heap.size → NK w2.heap.size A2 none k := fun k hk => ⟨by have := HB2.out.size; omega, fun e => by have := (HO.out.lt k e).1; have := HB1.out.size; omega, fun e => by cases e⟩
    have hsr : Srch (w2.alloc (.cells #[.int .i64 (nn : Int), .slice A2 n2 c2, .slice none 0 0] 53)) w1.heap.size w2.heap.size nn f [] A2 n2 c2 none 0 0 :=
      ⟨Blk.new w2 53 _, HS12.out, ⟨us, HO.out.below hbx, by rw [List.append_nil]; exact (HA.out.weak fun k _ hk => hnk k hk).old (Old.of_below hbx)⟩, ⟨[], Own.nil_ _ _ _, All1.nil_ _ _⟩, fun k _ e => by cases e⟩
    have HF := Lib.hid (find_top w1.heap.size w2.heap.size nn f A2 n2 c2 _ (by have := HS12.out; simp; omega) hsr hnn HW.out H200.out o L HoL.out)
    have HNK := Lib.hid hnk
    have HBx := Lib.hid (HB2.out.trans (hbx.mono HB2.out.size))
    clear hbx hnk hsr
    refine HF.out.mono ?_
    rintro e w3 ⟨rfl, hwf, hch, hfin⟩
    have HB3 := Lib.hid (Chg.toBelow HBx.out hch HNK.out)
    have HWf := Lib.hid hwf
    have HFin := Lib.hid hfin
    clear hwf hch hfin HF HBx HB2 HB1
    cases o with
    | none =>
      obtain ⟨fA2, fn2, fc2, lA2, ln2, lc2, hs8, _, _⟩ := HFin.out rfl
      have HS8 := Lib.hid hs8
      clear hs8 HFin
      go_wp2_with (refine wpList_store_fresh rfl 55 (.tmp 9) (.tmp 25) rfl rfl (pv zeros) _ 55 rfl rfl (size55 Wf.zeros) rfl (pv_one _) ?_; intro w4 hk hb hs; have HB4 := Lib.hid hb; clear hk hb hs)
      have HS9 := Lib.hid (HS8.out.below HB4.out)
      have hc2 : w4.cell? ⟨w2.heap.size, 2, none⟩ = some (.slice lA2 ln2 lc2) := HS9.out.blk.cell 2
      go_quiet (fail)
      go_wp2
      refine bodyPost_ret (results_tmp4 rfl _ _ _) rfl ?_
      obtain ⟨lus, lo1, lo2⟩ := HS9.out.lo
      refine ⟨none, 0, 0, lA2, ln2, lc2, rfl, RB.nil_ _ _, ?_, below_drewN (HB3.out.trans (HB4.out.mono HB3.out.size)) _⟩
      have := HS9.out.lens
      exact (lo1.r2 (fun _ _ => trivial) (by have := HFL.out; omega) (lo2.weak fun _ _ _ => trivial) : R2 w4 (fun _ => True) lA2 ln2 lc2 L).old (w' := w4.drewN nq) (fun _ _ _ => rfl)
    | some a =>
      have HWa := Lib.hid (show Wf a from HWf.out)
      clear HFin
      go_wp2_with (first | (refine wpList_store_fresh rfl 55 (.tmp 9) (.tmp 25) rfl rfl (pv a) _ 55 rfl rfl (size55 HWa.out) (pv17 HWa.out) (pv_one _) ?_; intro w4 hk hb hs; have HK4 := Lib.hid hk; have HB4 := Lib.hid hb; clear hk hb hs) | (refine wpList_makeFull rfl (.tmp 33) (.tmp 33) 23 rfl (.bool false) Try.underlying23 info4 rfl nn rfl rfl (by omega) (by omega) ?_; intro w5 hk hb hs; have HK5 := Lib.hid hk; have HB5 := Lib.hid hb; clear hk hb hs))
      have hmr : MkRel w w5 w3.heap.size w4.heap.size nn a 0 := ⟨(HB3.out.trans (HB4.out.mono HB3.out.size)).trans (HB5.out.mono (HB3.out.trans (HB4.out.mono HB3.out.size)).size), HK4.out.old HB5.out, by
          have h5 := HK5.out
          have e : (List.replicate nn (Value.bool false)) = (List.range nn).map fun v => if v < 0 then Value.bool (decide (0 < a.getD (v + 1) 0)) else .bool false := by
            apply List.ext_getElem
            · simp
            · intro i h1 h2; simp
          rw [← e]; exact h5, by have := HK4.out.lt; omega, by have := HB3.out.size; have := HB4.out.size; omega⟩
      have HMR := Lib.hid hmr
      clear hmr
      generalize w4.heap.size = b5 at *
      generalize w3.heap.size = g9 at *
      go_loopw [37] (fun s37 wr => ∃ k : Nat, k ≤ nn ∧ s37 = .int .i64 k ∧ MkRel w wr g9 b5 nn a k) (fun s37 _ => nn - (intOf s37).toNat)
      case atStart => exact ⟨0, Nat.zero_le _, rfl, HMR.out⟩
      case round =>
        obtain ⟨k, hk, rfl, hq⟩ := hrel
        have HQ := Lib.hid hq
        clear hq HMR
        by_cases hlt : k < nn
        · have hc := HQ.out.cur.cell (k + 1)
          rw [pv_get (by rw [HWa.out.1]; omega)] at hc
          have HMk := Lib.hid (mk_row nn k a)
          generalize a.getD (k + 1) 0 = x at *
          go_wp2_with (refine wpList_store_at rfl 4 (.tmp 47) (.tmp 46) rfl rfl b5 k (.bool (decide (0 < x))) _ 4 rfl rfl HQ.out.row (by simpa using hlt) (by kernel_rfl) rfl ?_; intro w6 hb6 ho6; have HB6 := Lib.hid hb6; have HO6 := Lib.hid ho6; clear hb6 ho6)
          go_roundw
          case rel =>
            refine ⟨k + 1, by omega, by go_num, below_only HQ.out.below HO6.out HQ.out.lo, HQ.out.cur.only HO6.out HQ.out.ne, ?_, HQ.out.ne, HQ.out.lo⟩
            rw [← HMk.out]; exact HB6.out
          case measure => simp [intOf]; omega
        · obtain rfl : k = nn := by omega
          go_wp2
          refine bodyPost_ret (results_tmp4 rfl _ _ _) rfl ?_
          refine ⟨some ⟨b5, 0, none⟩, k, k, none, 0, 0, rfl, ⟨by simp [modelF, ofSearch], Nat.le_refl _, by omega, by omega, ?_⟩, R2.nil_ _ _, HQ.out.below⟩
          have hrow := HQ.out.row
          have e : ((List.range k).map fun v => if v < k then Value.bool (decide (0 < a.getD (v + 1) 0)) else .bool false) = (modelF k a).map Value.bool := by
            unfold modelF
            rw [List.map_map]
            refine List.map_congr_left fun v hv => ?_
            rw [if_pos (List.mem_range.1 hv)]; rfl
          rw [e] at hrow
          exact hrow.sl trivial

end Go.Proofs.Ytekbkdbmkjdgbaa
