/- Walks: MadePoint. -/
import Derived.Test.YtjienelkjpodkaaW26
namespace Go.Proofs.Ytjienelkjpodkaa
open Go.RowKit

def mpList (s : Sys) (x : List Int) (i : Nat) : List Int := (List.range s.1.length).map fun j => if j < i then (if j < x.length then foldF (x.getD j 0) 0 (s.1.getD j 0) else 0) else 0
theorem mpList_zero (s : Sys) (x : List Int) : mpList s x 0 = List.replicate s.1.length 0 := by simp [mpList, List.map_const']
theorem mpList_stop {s : Sys} {x : List Int} {i : Nat} (h : x.length ≤ i) : mpList s x i = madeP s x := by
  unfold mpList madeP
  apply List.map_congr_left
  intro j hj
  by_cases hji : j < i
  · rw [if_pos hji]
  · rw [if_neg hji, if_neg (by omega)]
theorem mpList_all (s : Sys) (x : List Int) : mpList s x s.1.length = madeP s x := by
  unfold mpList madeP
  apply List.map_congr_left
  intro j hj
  rw [if_pos (List.mem_range.1 hj)]
theorem mpList_next {s : Sys} {x : List Int} {i : Nat} {y t : Int} (hx : x[i]? = some y) (ht : s.1[i]? = some t) : (mpList s x i).set i (foldF y 0 t) = mpList s x (i + 1) := by
  have hl : i < x.length := (List.getElem?_eq_some_iff.1 hx).1
  have hi : i < s.1.length := (List.getElem?_eq_some_iff.1 ht).1
  apply List.ext_getElem?
  intro j
  rw [List.getElem?_set]
  unfold mpList
  by_cases hij : i = j
  · subst hij
    have e1 : x[i] = y := (List.getElem?_eq_some_iff.1 hx).2
    have e2 : s.1[i] = t := (List.getElem?_eq_some_iff.1 ht).2
    simp [hi, hl, e1, e2]
  · rw [if_neg hij]
    simp only [List.getElem?_map]
    by_cases hj : j < s.1.length
    · simp only [List.getElem?_range hj, Option.map_some]
      by_cases h1 : j < i
      · simp [h1, show j < i + 1 by omega]
      · simp [h1, show ¬ j < i + 1 by omega]
    · rw [List.getElem?_eq_none (by simp; omega)]; rfl
theorem madeP_i64 {s : Sys} {x : List Int} (hs : eachB s.1 0 64 = true) : ∀ y ∈ madeP s x, I64 y := fun y hy => by
  unfold madeP at hy
  obtain ⟨j, hj, rfl⟩ := List.mem_map.1 hy
  split
  · have ht := getD_bet hs (List.mem_range.1 hj)
    have := foldF_bound (x := x.getD j 0) (lo := 0) (hi := s.1.getD j 0) ht.1
    exact i64_small (by omega) (by omega)
  · exact i64_small (by decide) (by decide)
structure MpMem (w : World) (A : Option Addr) (n c : Nat) (B : Option Addr) (m d : Nat) (s : Sys) (x : List Int) (i : Nat) (wr : World) : Prop where
  below : Below w.heap.size w wr
  bb : Blk wr w.heap.size 25 #[.slice A n c, .slice B m d]
  bq : Blk wr (w.heap.size + 1) 3 (pv (mpList s x i))
theorem MpMem.below_ {w : World} {A : Option Addr} {n c : Nat} {B : Option Addr} {m d : Nat} {s : Sys} {x : List Int} {i : Nat} {wr w' : World} (h : MpMem w A n c B m d s x i wr) (hb : Below wr.heap.size wr w') : MpMem w A n c B m d s x i w' :=
  ⟨h.below.trans (hb.mono h.below.size), h.bb.old hb, h.bq.old hb⟩
def PtPost (w : World) (l : List Int) (e : Ending) (w' : World) : Prop := ∃ A c, e = .returned (.slice A l.length c) ∧ R1 w' (fun k => w.heap.size ≤ k) A l.length c l ∧ Below w.heap.size w w'

set_option maxRecDepth 100000 in
set_option maxHeartbeats 4000000 in
/-- 'MadePoint'. -/
theorem madeP_c (K K' : Nat → Prop) (A B X : Option Addr) (n c m d xn xc : Nat) (s : Sys) (x : List Int) (w : World) (h : R1 w K A n c s.1) (h' : R1 w K' X xn xc x) (hn : n ≤ 12) (hs : eachB s.1 0 64 = true) :
    Calls Try.prog 14 #[.agg #[.slice A n c, .slice B m d], .slice X xn xc] w (PtPost w (madeP s x)) := by
  have hln := h.len
  have hlx := h'.len
  have H1 := Lib.hid h
  have H2 := Lib.hid h'
  have HT := Lib.hid hs
  have HPl := Lib.hid (show (madeP s x).length = n by simp [madeP, hln])
  clear h h' hs
  go_enter Try.func14, Try.ntmps14
  go_wp2_with (first
    | (refine wpList_makeFull rfl (.tmp 9) (.tmp 9) 22 rfl (.int .i64 0) Try.underlying22 info3 rfl n rfl rfl (by omega) (by omega) ?_
       intro w5 hk hb hs
       have hs1 : w5.heap.size = w.heap.size + 2 := by simpa using hs
       have HM0 := Lib.hid (show MpMem w A n c B m d s x 0 w5 from
         ⟨(show Below w.heap.size w w5 from ((Below.refl w.heap.size w).alloc (Nat.le_refl _) _).trans (hb.mono (by simp))), (Blk.new w 25 _).old hb, by rw [mpList_zero]; have : Blk w5 (w.heap.size + 1) 3 (List.replicate n (Value.int .i64 0)).toArray := (by simpa using hk); simpa [pv, H1.out.len] using this⟩)
       clear hk hb hs hs1))
  go_loopw [6] (fun s6 wr => ∃ i : Nat, i ≤ n ∧ s6 = .int .i64 i ∧ MpMem w A n c B m d s x i wr) (fun s6 _ => n - (intOf s6).toNat)
  case atStart => exact ⟨0, Nat.zero_le _, rfl, HM0.out⟩
  case round =>
    clear HM0
    obtain ⟨i, hin, rfl, hm⟩ := hrel
    obtain ⟨wo, rfl⟩ : ∃ wo : World, wo = wr := ⟨_, rfl⟩
    have b0 : wo.cell? ⟨w.heap.size, 0, none⟩ = some (.slice A n c) := hm.bb.cell 0
    by_cases h1 : i < n
    · have d1 : decide ((i : Int) < n) = true := by simp; omega
      have d1n : decide (i < n) = true := decide_eq_true h1
      by_cases h2 : i < xn
      · have d2 : decide ((i : Int) < xn) = true := by simp; omega
        have d2n : decide (i < xn) = true := decide_eq_true h2
        obtain ⟨ad, t, rfl, _, ht, hti, hct⟩ := (H1.out.below hm.below).at_ h1
        obtain ⟨xd, y, rfl, _, hy, hyi, hcy⟩ := (H2.out.below hm.below).at_ h2
        have hi1 : (i : Int) < n := by omega
        have hi2 : (i : Int) < xn := by omega
        have htb := bet_iff.1 (all_mem HT.out ht)
        have HNx := Lib.hid (fun (W : World) (hW : MpMem w (some ad) n c B m d s x i W) => show MpMem w (some ad) n c B m d s x (i + 1) (W.setCell ⟨w.heap.size + 1, i, none⟩ (.int .i64 (foldF y 0 t))) from by
          have ho := Only.setCell W (w.heap.size + 1) i (.int .i64 (foldF y 0 t))
          refine ⟨below_only hW.below ho (by omega), hW.bb.only ho (by omega), ?_⟩
          rw [← mpList_next hy ht, ← pv_set]
          exact hW.bq.set_ i _)
        have HMo := Lib.hid hm
        have Hyi := Lib.hid hyi
        clear hm hy ht hyi hti
        go_upto_region 5 with fail
        obtain ⟨wz, hwz⟩ : ∃ wz, wz = wo.drew := ⟨_, rfl⟩
        have hbz : Below wo.heap.size wo wz := by rw [hwz]; exact (Below.refl _ _).drew
        refine wp_region_still_tail 13 (by kernel_rfl) (by kernel_rfl) ?_
        rw [show ({ heap := wo.heap, tape := wo.tape, drawn := wo.drawn + 1, os := wo.os, output := wo.output } : World) = wz from hwz.symm]
        simp only [List.take_succ_cons, List.take_zero, List.drop_succ_cons, List.drop_zero]
        clear hwz
        have z1 := cell_below hbz b0
        have z2 := cell_below hbz hct
        have z3 := cell_below hbz hcy
        have HMz := Lib.hid (HMo.out.below_ hbz)
        have cq := HMz.out.bq.cell i
        rw [pv_get (by simp [mpList]; omega)] at cq
        have fq := HMz.out.bq.frozen i
        clear hbz b0 hct hcy
        repeat still_step
        still_call ((fold_c y 0 t wz Hyi.out (by omega)).mono fun e w' h => ⟨h.1, h.2.symm⟩)
        repeat still_step
        refine wpStill_nil ?_
        clear z1 z2 z3
        go_wp2_with fail
        clear cq fq
        go_roundw
        case rel => exact ⟨i + 1, by omega, by go_num, HNx.out wz HMz.out⟩
        case measure => simp [intOf]; omega
      · have d2 : decide ((i : Int) < xn) = false := by simp; omega
        have d2n : decide (i < xn) = false := decide_eq_false h2
        have HE := Lib.hid (mpList_stop (s := s) (x := x) (i := i) (by omega))
        have HMx := Lib.hid hm
        clear hm
        go_wp2_with fail
        go_ret
        have hq9 := HMx.out.bq
        rw [HE.out] at hq9
        refine ⟨some ⟨w.heap.size + 1, 0, none⟩, n, by rw [HPl.out]; rfl, ?_, HMx.out.below⟩
        rw [HPl.out]
        exact hq9.r1 (by omega) HPl.out (by omega) (madeP_i64 HT.out)
    · have d1 : decide ((i : Int) < n) = false := by simp; omega
      have d1n : decide (i < n) = false := decide_eq_false h1
      obtain rfl : n = i := by omega
      have HE := Lib.hid (show mpList s x n = madeP s x by rw [← hln]; exact mpList_all s x)
      have HMx := Lib.hid hm
      clear hm
      go_wp2_with fail
      go_ret
      have hq9 := HMx.out.bq
      rw [HE.out] at hq9
      refine ⟨some ⟨w.heap.size + 1, 0, none⟩, n, by rw [HPl.out]; rfl, ?_, HMx.out.below⟩
      rw [HPl.out]
      exact hq9.r1 (by omega) HPl.out (by omega) (madeP_i64 HT.out)
end Go.Proofs.Ytjienelkjpodkaa
