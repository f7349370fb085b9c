/- The walk of find. -/
import Derived.Test.YtekbkdbmkjdgbaaW8
import Derived.Test.YtekbkdbmkjdgbaaL3
import Derived.Test.YtekbkdbmkjdgbaaP2
import Derived.Maps.RangeWalk
namespace Go.Proofs.Ytekbkdbmkjdgbaa
open Go.RowKit

def FindPost (B g n : Nat) (f : List (List Int)) (fA lA : Option Addr) (r : Option (List Int)) (L : List (List Int)) (w : World) (e : Ending) (w' : World) : Prop :=
  e = .returned (.tuple #[.agg (pv (r.getD zeros)), .bool r.isSome]) ∧ Wf (r.getD zeros) ∧ Chg g fA lA w w' ∧
    (r = none → ∃ fA2 fn2 fc2 lA2 ln2 lc2, Srch w' B g n f L fA2 fn2 fc2 lA2 ln2 lc2 ∧ NewOr w fA fA2 ∧ NewOr w lA lA2)

def FindSaid (k : Nat) : Prop :=
  ∀ (B g n : Nat) (f L : List (List Int)) (fA lA dA : Option Addr) (fn fc ln lc dn dc : Nat) (d a0 : List Int) (w : World), B ≤ w.heap.size → Srch w B g n f L fA fn fc lA ln lc → R1 w (NK g fA lA) dA dn dc d →
    d.all (wi n) = true → beginF d d zeros = some a0 → zc a0 < k → n ≤ 16 → (f ++ L).all (fun c => c.all (wi n)) = true → f.length ≤ 200 → L.length + 2 ^ k ≤ 300000 → d.length + zc a0 ≤ 17 →
    Calls Try.prog 38 #[.pointer (some ⟨g, 0, none⟩), .slice dA dn dc] w (FindPost B g n f fA lA (findF n f k L d).1 (findF n f k L d).2 w)

theorem same_store {w w' : World} {g : Nat} {t : TypeId} {cs : Array Value} (h : Blk w g t cs) (h' : Blk w' g t cs) (ho : Only g w w') : Below w.heap.size w w' :=
  ⟨ho.os, ho.tape, ho.output, by rw [ho.size]; exact Nat.le_refl _, fun k _ => by
    by_cases e : k = g
    · subst e; unfold Blk at h h'; rw [h, h']
    · exact ho.block k e⟩

theorem all_wi_mono {f : List (List Int)} {n : Nat} (h : f.all (fun c => c.all (wi n)) = true) (hn : n ≤ 16) : f.all (fun c => c.all (wi 16)) = true := by
  rw [List.all_eq_true] at h ⊢
  intro c hc
  have := h c hc
  rw [List.all_eq_true] at this ⊢
  exact fun l hl => wi_mono (this l hl) (by omega)
theorem all_wi1 {d : List Int} {n : Nat} (h : d.all (wi n) = true) (hn : n ≤ 16) : d.all (wi 16) = true := by
  rw [List.all_eq_true] at h ⊢
  exact fun l hl => wi_mono (h l hl) (by omega)

theorem Srch.nk {w : World} {B g n : Nat} {f L : List (List Int)} {fA lA : Option Addr} {fn fc ln lc : Nat} (h : Srch w B g n f L fA fn fc lA ln lc) {q : Nat} (hq : w.heap.size ≤ q) : NK g fA lA q := by
  obtain ⟨us, h1, _⟩ := h.fo
  obtain ⟨vs, h3, _⟩ := h.lo
  have := h.blk.lt
  exact ⟨by omega, fun e => by have := (h1.lt q e).2; omega, fun e => by have := (h3.lt q e).2; omega⟩
theorem Chg.blk {g : Nat} {fA lA : Option Addr} {w w' : World} (h : Chg g fA lA w w') {q : Nat} {t : TypeId} {cs : Array Value} (hb : Blk w q t cs) (hq : NK g fA lA q) : Blk w' q t cs := (h.old q hq hb.lt).trans hb
theorem Chg.only {g : Nat} {fA lA : Option Addr} {w w' w'' : World} (h : Chg g fA lA w w') {q : Nat} (ho : Only q w' w'') (hq : w.heap.size ≤ q) : Chg g fA lA w w'' :=
  ⟨ho.os.trans h.os, ho.tape.trans h.tape, ho.output.trans h.output, by rw [ho.size]; exact h.size, fun k hk hlt => (ho.block k (by omega)).trans (h.old k hk hlt)⟩
theorem Chg.below {g : Nat} {fA lA : Option Addr} {w w' w'' : World} (h : Chg g fA lA w w') (hb : Below w.heap.size w' w'') : Chg g fA lA w w'' :=
  ⟨hb.os.trans h.os, hb.tape.trans h.tape, hb.output.trans h.output, Nat.le_trans h.size hb.size, fun k hk hlt => (hb.block k hlt).trans (h.old k hk hlt)⟩
theorem Chg.after {g : Nat} {fA lA : Option Addr} {w w' w'' : World} (hb : Below w.heap.size w w') (h : Chg g fA lA w' w'') : Chg g fA lA w w'' :=
  ⟨h.os.trans hb.os, h.tape.trans hb.tape, h.output.trans hb.output, Nat.le_trans hb.size h.size, fun k hk hlt => (h.old k hk (Nat.lt_of_lt_of_le hlt hb.size)).trans (hb.block k hlt)⟩
theorem NewOr.after {w w' : World} {A A' : Option Addr} (h : NewOr w' A A') (hs : w.heap.size ≤ w'.heap.size) : NewOr w A A' := fun k hk => by
  rcases h k hk with e | e
  · exact .inl e
  · exact .inr (by omega)

/-- what stands behind the first propagation -/
structure FindMid (w w4 : World) (b1 : Nat) (a : List Int) : Prop where
  below : Below w.heap.size w w4
  res : Blk w4 w.heap.size 55 (pv zeros)
  cur : Blk w4 b1 55 (pv a)
  wf : Wf a
  lt : w.heap.size < b1

structure ChRel (w4 : World) (N b2 : Nat) (B g n : Nat) (f : List (List Int)) (fA lA dA : Option Addr) (dn dc : Nat) (d : List Int) (v k : Nat) (RL : Option (List Int) × List (List Int)) (r : Nat) (wr : World) : Prop where
  ex : ∃ Lr fA' fn' fc' lA' ln' lc', Srch wr B g n f Lr fA' fn' fc' lA' ln' lc' ∧ RL = restF n f k d v r Lr ∧ R1 wr (NK g fA' lA') dA dn dc d ∧ NK g fA' lA' N ∧ NK g fA' lA' b2 ∧
    NewOr w4 fA fA' ∧ NewOr w4 lA lA' ∧ Within n (f ++ Lr) ∧ Lr.length + r * 2 ^ k ≤ 300000
  res : Blk wr N 55 (pv zeros)
  two : Blk wr b2 3 #[.int .i64 (-(v : Int)), .int .i64 v]
  chg : Chg g fA lA w4 wr

/-- the literal of the branch -/
def chL (v r : Nat) : Int := if r = 0 then (v : Int) else -(v : Int)

set_option maxHeartbeats 1000000 in
theorem find_c (k : Nat) (ih : FindSaid k) : FindSaid (k + 1) := by
  intro B g n f L fA lA dA fn fc ln lc dn dc d a0 w hB hS hd hdv hbeg hz hn16 hfL hf hL hdl
  have hd16 := all_wi1 hdv hn16
  have hfL16 := all_wi_mono hfL hn16
  have hlens := hS.lens
  have hLits := Lits.of_all hfL16
  have hwa : Wf a0 := beginF_wf Wf.zeros hbeg
  have hfind := findF_step n f k L d
  have hst : startF (f ++ L) d = propA (f ++ L) a0 := by rw [startF, hbeg]
  rw [hst] at hfind
  obtain ⟨R, L1, hRL⟩ : ∃ R L1, findF n f (k + 1) L d = (R, L1) := ⟨_, _, rfl⟩
  rw [hRL] at hfind ⊢
  clear hRL
  have hgl := hS.blk.lt
  have Hfind := Lib.hid hfind
  have HS := Lib.hid hS
  have HD := Lib.hid hd
  have HV := Lib.hid hd16
  have HDV := Lib.hid hdv
  have HFL := Lib.hid hfL
  have HF16 := Lib.hid hfL16
  have HZ := Lib.hid (show zc a0 < k + 1 from hz)
  have HBeg0 := Lib.hid hbeg
  have HWA := Lib.hid hwa
  have HBase := Lib.hid (And.intro hB hgl)
  have HSz := Lib.hid (And.intro hlens (And.intro hf (And.intro hL hdl)))
  have HBeg := Lib.hid fun W (hW : Below w.heap.size w W) => begin_c (NK g fA lA) dA dn dc d W (hd.below hW) hd16
  rw [hbeg] at HBeg
  have hwr : Wf ((propA (f ++ L) a0).getD zeros) := getD_wf fun a' e => propF_wf hLits hwa e
  have HPr := Lib.hid fun W (hW : Below w.heap.size w W) => propagate_c (fun _ => True) fA fn fc (f ++ L) a0 W ((hS.below hW).r2 (by have := hlens.1; have := Nat.one_le_two_pow (n := k + 1); omega)) hfL16 hwa
  have HWR := Lib.hid hwr
  clear hfind hS hd hd16 hdv hfL hfL16 hz hbeg hwa hB hgl hlens hf hL hdl hst hwr hLits
  go_enter Try.func38, Try.ntmps38
  go_wp2_with fail
  refine (HBeg.out _ ((Below.refl _ _).alloc (Nat.le_refl _) _)).mono ?_
  rintro e w1 ⟨rfl, hb⟩
  have HB1 := Lib.hid (show Below w.heap.size w w1 from ((Below.refl _ _).alloc (Nat.le_refl _) _).trans (hb.mono (by simp)))
  have HR1 := Lib.hid (show Blk w1 w.heap.size 55 (pv zeros) from (Blk.new w 55 (pv zeros)).old hb)
  have HG1 := Lib.hid (show w.heap.size < w1.heap.size by have := hb.size; simp at this; omega)
  clear hb HBeg
  go_wp2_with (refine wpList_store_fresh rfl 55 (.tmp 6) (.tmp 18) rfl rfl (pv a0) _ 55 rfl rfl (size55 HWA.out) (pv17 HWA.out) (pv_one _) ?_; intro w2 hk hb hs; have HK2 := Lib.hid hk; have HB2 := Lib.hid (HB1.out.trans (hb.mono HB1.out.size)); have HR2 := Lib.hid (HR1.out.old hb); clear hk hb hs)
  have hfA : w2.drew.cell? ⟨g, 1, none⟩ = some (.slice fA fn fc) := (HS.out.below HB2.out).blk.cell 1
  generalize hb1 : w1.heap.size = b1 at *
  have HG2 := Lib.hid (show w.heap.size < b1 from HG1.out)
  clear hb1 HG1
  refine wp_region_any (by kernel_rfl) ?_
  change wpAny _ _ _ _ _ _ _ (World.drew _)
  refine wpAny_take (i := 0) (v := .pointer (some ⟨g, 0, none⟩)) rfl (by kernel_rfl) (by kernel_rfl) (by kernel_rfl) (fun _ _ _ h => h) (Or.inl ⟨by rfl, fun w => by go_simp⟩) ?_
  simp only [List.getElem_toArray, List.getElem_cons_zero, Act.put, List.setIfInBounds_toArray, List.set_cons_succ, List.set_cons_zero]
  refine wpAny_take (i := 1) (v := .pointer (some ⟨g, 0, none⟩)) rfl (by kernel_rfl) (by kernel_rfl) (by kernel_rfl) (fun _ _ _ h => h) (Or.inl ⟨by rfl, fun w => by go_simp⟩) ?_
  simp only [List.getElem_toArray, List.getElem_cons_zero, List.getElem_cons_succ, Act.put, List.setIfInBounds_toArray, List.set_cons_succ, List.set_cons_zero]
  refine wpAny_take (i := 2) (v := .pointer (some ⟨g, 1, none⟩)) rfl (by kernel_rfl) (by kernel_rfl) (by kernel_rfl) (fun _ _ _ h => h) (Or.inl ⟨by rfl, fun w => by go_simp⟩) ?_
  simp only [List.getElem_toArray, List.getElem_cons_zero, List.getElem_cons_succ, Act.put, List.setIfInBounds_toArray, List.set_cons_succ, List.set_cons_zero]
  refine wpAny_pair (i := 3) (j := 4) (.slice fA fn fc) (.agg (pv a0)) (by kernel_rfl) (by kernel_rfl) (by kernel_rfl) rfl rfl rfl rfl (run_load_cell 22 (.tmp 23) rfl _ rfl _ hfA Try.underlying22) (run_load_blk 55 (.tmp 6) rfl b1 rfl 55 _ _ HK2.out Try.underlying55 rfl (size55 HWA.out)) (run_load_cell 22 (.tmp 23) rfl _ rfl _ hfA Try.underlying22) (run_load_blk 55 (.tmp 6) rfl b1 rfl 55 _ _ HK2.out Try.underlying55 rfl (size55 HWA.out)) rfl rfl ?_
  simp only [List.getElem_toArray, List.getElem_cons_zero, List.getElem_cons_succ, Act.put, List.setIfInBounds_toArray, List.set_cons_succ, List.set_cons_zero]
  have HB2d := Lib.hid (show Below w.heap.size w w2.drew from HB2.out.drew)
  refine wpAny_one (i := 5) (by kernel_rfl) (wpOp_call 50 #[.slice fA fn fc, .agg (pv a0)] rfl rfl (by go_simp) ((HPr.out _ HB2d.out).mono ?_))
  generalize hrr : propA (f ++ L) a0 = r at *
  have Hr := Lib.hid hrr
  clear hrr
  rintro e w3 ⟨rfl, hb3⟩
  have HB3 := Lib.hid (HB2d.out.trans (hb3.mono HB2d.out.size))
  have HR3 := Lib.hid (show Blk w3 w.heap.size 55 (pv zeros) from Blk.old (w := w2.drew) HR2.out hb3)
  have HK3 := Lib.hid (show Blk w3 b1 55 (pv a0) from Blk.old (w := w2.drew) HK2.out hb3)
  clear hb3 hfA HPr HB2 HB2d HR2 HK2 HB1 HR1
  refine ⟨_, rfl, ?_⟩
  simp only [List.getElem_toArray, List.getElem_cons_zero, List.getElem_cons_succ, Act.put, List.setIfInBounds_toArray, List.set_cons_succ, List.set_cons_zero]
  refine wpAny_take (i := 6) (v := .tuple #[.agg (pv (r.getD zeros)), .bool r.isSome]) rfl (by kernel_rfl) (by kernel_rfl) (by kernel_rfl) (fun _ _ _ h => h) (Or.inl ⟨by rfl, fun w => by go_simp⟩) ?_
  simp only [List.getElem_toArray, List.getElem_cons_zero, List.getElem_cons_succ, Act.put, List.setIfInBounds_toArray, List.set_cons_succ, List.set_cons_zero]
  refine wpAny_take (i := 7) (v := .agg (pv (r.getD zeros))) rfl (by kernel_rfl) (by kernel_rfl) (by kernel_rfl) (fun _ _ _ h => h) (Or.inl ⟨by rfl, fun w => by go_simp⟩) ?_
  simp only [List.getElem_toArray, List.getElem_cons_zero, List.getElem_cons_succ, Act.put, List.setIfInBounds_toArray, List.set_cons_succ, List.set_cons_zero]
  refine wpAny_take (i := 8) (v := .bool r.isSome) rfl (by kernel_rfl) (by kernel_rfl) (by kernel_rfl) (fun _ _ _ h => h) (Or.inl ⟨by rfl, fun w => by go_simp⟩) ?_
  simp only [List.getElem_toArray, List.getElem_cons_zero, List.getElem_cons_succ, Act.put, List.setIfInBounds_toArray, List.set_cons_succ, List.set_cons_zero]
  refine wpAny_one (i := 9) (by kernel_rfl) (wpOp_store_blk rfl rfl 55 (.tmp 6) (.tmp 27) rfl rfl b1 (pv (r.getD zeros)) (pv a0) 55 rfl rfl HK3.out (size55 HWR.out) (pvpv HWA.out HWR.out) (pv_one _) ?_)
  intro w4 hk4 ho4
  have HM := Lib.hid (show FindMid w w4 b1 (r.getD zeros) from ⟨below_only HB3.out ho4 (by have := HG2.out; omega), HR3.out.only ho4 (by have := HG2.out; omega), hk4, HWR.out, HG2.out⟩)
  clear hk4 ho4 HB3 HR3 HK3 HG2
  refine wpAny_take (i := 10) (v := .bool r.isSome) rfl (by kernel_rfl) (by kernel_rfl) (by kernel_rfl) (fun _ _ _ h => h) (Or.inl ⟨by rfl, fun w => by go_simp⟩) ?_
  simp only [List.getElem_toArray, List.getElem_cons_zero, List.getElem_cons_succ, Act.put, List.setIfInBounds_toArray, List.set_cons_succ, List.set_cons_zero]
  refine wpAny_done (by kernel_rfl) ?_ _
  cases r with
  | none =>
    have hR : R = none ∧ L1 = L ++ [negs d] := by
      have := Hfind.out
      cases this
      exact ⟨rfl, rfl⟩
    obtain ⟨rfl, rfl⟩ := hR
    have HLn := Lib.hid (learn_c (NK g fA lA) B g n f L fA lA dA fn fc ln lc dn dc d w4 (by have := HBase.out.1; have := HM.out.below.size; omega) (HS.out.below HM.out.below) (HD.out.below HM.out.below) HV.out
      (by have := HSz.out; have := Nat.one_le_two_pow (n := k + 1); omega) (by have := HSz.out; have := Nat.one_le_two_pow (n := k + 1); omega) (by have := HSz.out; have := HD.out.len; omega))
    clear ih
    go_wp2_with fail
    refine HLn.out.mono ?_
    rintro e w5 ⟨rfl, fA2, fc2, lA2, lc2, hs5, hch5, hn1, hn2⟩
    have HS5 := Lib.hid hs5
    have HC5 := Lib.hid hch5
    have HN5 := Lib.hid (And.intro hn1 hn2)
    have HRes := Lib.hid (hch5.blk HM.out.res (HS.out.nk (Nat.le_refl _)))
    clear hs5 hch5 hn1 hn2 HLn
    go_wp2_with (refine wpList_store_blk rfl 55 (.tmp 4) (.tmp 34) rfl rfl w.heap.size (pv zeros) (pv zeros) 55 rfl rfl HRes.out (size55 Wf.zeros) rfl (pv_one _) ?_; intro w6 hk ho; have HK6 := Lib.hid hk; have HO6 := Lib.hid ho; clear hk ho)
    refine bodyPost_ret (v := .tuple #[.agg (pv zeros), .bool false]) ?_ rfl ?_
    · simp [results, Try.results38, asAddr, run_loadVar_row _ w.heap.size 55 55 (pv zeros) (0, 0) _ HK6.out Try.underlying55 rfl (size55 Wf.zeros)]
    · exact ⟨rfl, Wf.zeros, (Chg.after HM.out.below HC5.out).only HO6.out (Nat.le_refl _), fun _ => ⟨fA2, fn + 1, fc2, lA2, ln + 1, lc2, HS5.out.below (same_store HRes.out HK6.out HO6.out), HN5.out.1.after HM.out.below.size, HN5.out.2.after HM.out.below.size⟩⟩
  | some a =>
    have hfind : (R, L1) = if firstF a n 17 1 > n then (some a, L) else restF n f k d (firstF a n 17 1) 2 L := Hfind.out
    have Hfind2 := Lib.hid hfind
    have HPA := Lib.hid Hr.out
    have HMa := Lib.hid (show FindMid w w4 b1 a from HM.out)
    have HSm := Lib.hid (HS.out.below HM.out.below)
    clear hfind Hfind HWR
    go_wp2
    have hc0 : w4.cell? ⟨g, 0, none⟩ = some (.int .i64 n) := HSm.out.blk.cell 0
    go_loop [9] (fun s9 => ∃ v : Nat, 1 ≤ v ∧ v ≤ 17 ∧ s9 = .int .i64 v ∧ firstF a n (18 - v) v = firstF a n 17 1) (fun s9 => 18 - (intOf s9).toNat)
    case atStart => exact ⟨1, by omega, by omega, rfl, rfl⟩
    case round =>
      obtain ⟨v, hv1, hv17, rfl, hvf⟩ := hrel
      have HVF := Lib.hid hvf
      clear hvf
      by_cases hvn : v ≤ n
      · have hcv : w4.cell? ⟨b1, v, none⟩ = some (.int .i64 (a.getD v 0)) := by rw [HMa.out.cur.cell, pv_get (by rw [HMa.out.wf.1]; omega)]
        have d1 : decide (v ≤ n) = true := by simp; omega
        have d2 : decide ((v : Int) ≤ n) = true := by simp; omega
        have hgd := HMa.out.wf.getD v
        by_cases hx0 : a.getD v 0 = 0
        · have HF := Lib.hid (show firstF a n 17 1 = v by rw [← HVF.out]; exact firstF_stop (fun h => h.2 hx0))
          rw [hx0] at hcv
          have HX0 := Lib.hid hx0
          clear hx0 hgd
          have e1 : decide (n < v) = false := by simp; omega
          have e2 : decide ((n : Int) < v) = false := by simp; omega
          go_wp2
          have hR := Hfind2.out
          rw [HF.out, if_neg (by omega)] at hR
          have hv0 : val a (v : Int) = 0 := by
            unfold val
            rw [if_neg (by omega), Int.toNat_natCast]; exact HX0.out
          have hu : val a0 (v : Int) = 0 := prop_undecided (Lits.of_all HF16.out) HWA.out HPA.out (by omega) hv0
          have hb2 : (w4.alloc (.cells #[.int .i64 (-(v : Int)), .int .i64 v] 3)).heap.size = w4.heap.size + 1 := by simp
          have hBel : Below w4.heap.size w4 (w4.alloc (.cells #[.int .i64 (-(v : Int)), .int .i64 v] 3)) := (Below.refl _ _).alloc (Nat.le_refl _) _
          have HCh := Lib.hid (show ChRel w4 w.heap.size w4.heap.size B g n f fA lA dA dn dc d v k (R, L1) 2 (w4.alloc (.cells #[.int .i64 (-(v : Int)), .int .i64 v] 3)) from
            ⟨⟨L, fA, fn, fc, lA, ln, lc, HSm.out.below hBel, hR, (HD.out.below HM.out.below).below hBel, HS.out.nk (Nat.le_refl _), HSm.out.nk (Nat.le_refl _), NewOr.refl _ _, NewOr.refl _ _, HFL.out, by have := HSz.out.2.2.1; rw [Nat.pow_succ] at this; omega⟩,
             HMa.out.res.old hBel, Blk.new w4 3 _, Chg.of_below hBel⟩)
          have Hu := Lib.hid hu
          clear hR hv0 hu hb2 hBel
          generalize w4.heap.size = b2 at *
          go_loopw [61] (fun s61 wr => ∃ r : Nat, r ≤ 2 ∧ s61 = .int .i64 ((2 - r : Nat) : Int) ∧ ChRel w4 w.heap.size b2 B g n f fA lA dA dn dc d v k (R, L1) r wr) (fun s61 _ => 2 - (intOf s61).toNat)
          case atStart => exact ⟨2, by omega, rfl, HCh.out⟩
          case round =>
            obtain ⟨r, hr2, rfl, hch⟩ := hrel
            have HC := Lib.hid hch
            clear hch HCh
            obtain ⟨Lr, fA', fn', fc', lA', ln', lc', hs, hrl, hd', nkN, nkb, no1, no2, hwi, hsz⟩ := HC.out.ex
            have HSr := Lib.hid hs
            have HRL := Lib.hid hrl
            have HDr := Lib.hid hd'
            have HNK := Lib.hid (And.intro nkN nkb)
            have HNO := Lib.hid (And.intro no1 no2)
            have HWI := Lib.hid hwi
            have HSZ := Lib.hid hsz
            have hcap := hd'.cap
            have hbig := hd'.big
            have hdn := hd'.len
            have hdl := HSz.out.2.2.2
            have hlens := hs.lens
            have hp1 := Nat.one_le_two_pow (n := k)
            have hB1 : B ≤ wr.heap.size := by have := HBase.out.1; have := HMa.out.below.size; have := HC.out.chg.size; omega
            have HB1 := Lib.hid hB1
            have HLen := Lib.hid (And.intro hlens hsz)
            have HDn := Lib.hid hdn
            have hdn16 : dn ≤ 17 := by omega
            clear hs hrl hd' nkN nkb no1 no2 hwi hsz hB1 hlens hdn hdl hp1
            cases r with
            | zero =>
              have hR : R = none ∧ L1 = Lr ++ [negs d] := by
                have := HRL.out
                rw [restF] at this
                cases this
                exact ⟨rfl, rfl⟩
              obtain ⟨rfl, rfl⟩ := hR
              have HLn := Lib.hid (learn_c (NK g fA' lA') B g n f Lr fA' lA' dA fn' fc' ln' lc' dn dc d wr HB1.out HSr.out HDr.out HV.out (by have := HLen.out; have := HSz.out; omega) (by have := HLen.out; omega) (by omega))
              clear ih
              go_wp2_with fail
              refine HLn.out.mono ?_
              rintro e w5 ⟨rfl, fA2, fc2, lA2, lc2, hs5, hch5, hn1, hn2⟩
              have HS5 := Lib.hid hs5
              have HC5 := Lib.hid hch5
              have HN5 := Lib.hid (And.intro hn1 hn2)
              have HRes := Lib.hid (hch5.blk HC.out.res HNK.out.1)
              clear hs5 hch5 hn1 hn2 HLn
              go_wp2_with (refine wpList_store_blk rfl 55 (.tmp 4) (.tmp 85) rfl rfl w.heap.size (pv zeros) (pv zeros) 55 rfl rfl HRes.out (size55 Wf.zeros) rfl (pv_one _) ?_; intro w6 hk ho; have HK6 := Lib.hid hk; have HO6 := Lib.hid ho; clear hk ho)
              refine bodyPost_ret (v := .tuple #[.agg (pv zeros), .bool false]) ?_ rfl ?_
              · simp [results, Try.results38, asAddr, run_loadVar_row _ w.heap.size 55 55 (pv zeros) (0, 0) _ HK6.out Try.underlying55 rfl (size55 Wf.zeros)]
              · refine ⟨rfl, Wf.zeros, ((Chg.after HMa.out.below (HC.out.chg.trans HC5.out HNO.out.1 HNO.out.2)).only HO6.out (Nat.le_refl _)), fun _ => ⟨fA2, fn' + 1, fc2, lA2, ln' + 1, lc2, HS5.out.below (same_store HRes.out HK6.out HO6.out), ?_, ?_⟩⟩
                · exact (HNO.out.1.trans HN5.out.1 HC.out.chg.size).after HMa.out.below.size
                · exact (HNO.out.2.trans HN5.out.2 HC.out.chg.size).after HMa.out.below.size
            | succ r =>
              generalize hjj : 2 - (r + 1) = j at *
              have hj2 : j < 2 := by omega
              have hjn : 2 - r = j + 1 := by omega
              have hcl : wr.cell? ⟨b2, j, none⟩ = some (.int .i64 (chL v r)) := by
                rw [HC.out.two.cell]
                have : r = 0 ∨ r = 1 := by omega
                rcases this with rfl | rfl
                · obtain rfl : j = 1 := by omega
                  rfl
                · obtain rfl : j = 0 := by omega
                  rfl
              have hwl : wi n (chL v r) = true := by unfold chL; split <;> exact wi_of (by omega) (by omega) (by omega)
              have hval : val a0 (chL v r) = 0 := by
                unfold chL; split
                · exact Hu.out
                · rw [val_neg (by omega), Hu.out]; rfl
              have HRL2 := Lib.hid (show (R, L1) = match findF n f k Lr (d ++ [chL v r]) with
                | (some m, L1) => (some m, L1)
                | (none, L1) => restF n f k d v r L1 from HRL.out)
              have HJ := Lib.hid hjn
              have HWL := Lib.hid hwl
              have HVal := Lib.hid hval
              obtain ⟨lb0, lb1, lb2⟩ := wi_facts hwl
              clear hjj hjn hwl hval HRL
              generalize chL v r = l at *
              go_wp2_with (at_builtin; refine wpList_appendNew rfl (.tmp 72) (.tmp 74) 32 rfl app32 dA dn (d.map (Value.int .i64)) rfl (by simpa using HDn.out) (HDr.out.sl.old (Old.of_below ((Below.refl _ _).alloc (Nat.le_refl _) _))) wr.heap.size (.int .i64 l) rfl ((Blk.new wr 3 _).cell 0) rfl (by omega) (by omega) ?_; intro A1 c1 w7 hown hgr; have HO7 := Lib.hid hown; have HG7 := Lib.hid hgr; clear hown hgr)
              have hB7 : Below wr.heap.size wr w7 := ((Below.refl _ _).alloc (Nat.le_refl _) _).grown HG7.out (by simp) (fun q hq => by cases hq)
              have HB7 := Lib.hid hB7
              have hlt7 := hB7.size
              have hzs := zc_setL HWA.out (wi_mono HWL.out (by omega)) HVal.out
              have hd7 : R1 w7 (NK g fA' lA') A1 (dn + 1) c1 (d ++ [l]) := by
                have ho := HO7.out
                rw [show d.map (Value.int .i64) ++ [.int .i64 l] = (d ++ [l]).map (Value.int .i64) by simp] at ho
                refine ho.r1 (fun q hq => HSr.out.nk (by have := (ho.lt q hq).1; simp at this; omega)) (by omega) fun y hy => ?_
                rcases List.mem_append.1 hy with h1 | h1
                · obtain ⟨v0, v1, v2⟩ := wi_facts (List.all_eq_true.1 HV.out y h1)
                  unfold I64; omega
                · simp only [List.mem_singleton] at h1; subst h1; unfold I64; omega
              have HCall := Lib.hid (ih B g n f Lr fA' lA' A1 fn' fc' ln' lc' (dn + 1) c1 (d ++ [l]) (setL a0 l) w7 (by have := HB1.out; omega) (HSr.out.below hB7) hd7 (snoc_wi HDV.out HWL.out)
                (begin_snoc HV.out (wi_mono HWL.out (by omega)) HBeg0.out HVal.out) (by have := HZ.out; omega) hn16 HWI.out HSz.out.2.1 (by have := HLen.out.2; rw [Nat.add_mul] at this; omega)
                (by have := HSz.out.2.2.2; simp; omega))
              have hlen2 := findF_len n f k Lr (d ++ [l])
              have hwi2 := findF_wi (k := k) (f := f) (Within.app.1 HWI.out).2 (snoc_wi HDV.out HWL.out)
              obtain ⟨o, L2, hoL⟩ : ∃ o L2, findF n f k Lr (d ++ [l]) = (o, L2) := ⟨_, _, rfl⟩
              rw [hoL] at HRL2 HCall hlen2 hwi2
              have HW2 := Lib.hid (And.intro hwi2 hlen2)
              clear hd7 hzs hlt7 hB7 hoL hlen2 hwi2 ih
              refine HCall.out.mono ?_
              rintro e w8 ⟨rfl, hwf8, hch8, hn8⟩
              have HWf8 := Lib.hid hwf8
              have HCh8 := Lib.hid (show Chg g fA lA w4 w8 from HC.out.chg.trans (Chg.after HB7.out hch8) HNO.out.1 HNO.out.2)
              have HRes8 := Lib.hid (hch8.blk (HC.out.res.old HB7.out) HNK.out.1)
              have HTwo8 := Lib.hid (hch8.blk (HC.out.two.old HB7.out) HNK.out.2)
              have HS8 := Lib.hid (show w7.heap.size ≤ w8.heap.size from hch8.size)
              have HN8 := Lib.hid hn8
              have HOld8 := Lib.hid hch8.old
              clear hwf8 hch8 hn8 HCall
              cases o with
              | some m =>
                have hR : R = some m ∧ L1 = L2 := by
                  have := HRL2.out
                  cases this
                  exact ⟨rfl, rfl⟩
                obtain ⟨rfl, rfl⟩ := hR
                have HWm := Lib.hid (show Wf m from HWf8.out)
                go_wp2_with (first | (refine wpList_store_fresh rfl 55 (.tmp 13) (.tmp 77) rfl rfl (pv m) _ 55 rfl rfl (size55 HWm.out) (pv17 HWm.out) (pv_one _) ?_; intro w9 hk hb hs; have HK9 := Lib.hid hk; have HB9 := Lib.hid hb; have HR9 := Lib.hid (HRes8.out.old hb); clear hk hb hs) | (refine wpList_load_blk rfl 55 (.tmp 13) rfl w8.heap.size rfl 55 (pv m) _ HK9.out Try.underlying55 rfl (size55 HWm.out) ?_) | (refine wpList_store_blk rfl 55 (.tmp 4) (.tmp 80) rfl rfl w.heap.size (pv m) (pv zeros) 55 rfl rfl HR9.out (size55 HWm.out) (pvpv Wf.zeros HWm.out) (pv_one _) ?_; intro w6 hk ho; have HK6 := Lib.hid hk; have HO6 := Lib.hid ho; clear hk ho))
                refine bodyPost_ret (v := .tuple #[.agg (pv m), .bool true]) ?_ rfl ?_
                · simp [results, Try.results38, asAddr, run_loadVar_row _ w.heap.size 55 55 (pv m) (0, 0) _ HK6.out Try.underlying55 rfl (size55 HWm.out)]
                · exact ⟨rfl, HWm.out, (Chg.after HMa.out.below (HCh8.out.below (HB9.out.mono HCh8.out.size))).only HO6.out (Nat.le_refl _), fun e => by cases e⟩
              | none =>
                obtain ⟨fA2, fn2, fc2, lA2, ln2, lc2, hs8, hnf, hnl⟩ := HN8.out rfl
                have HS82 := Lib.hid hs8
                have HN82 := Lib.hid (And.intro hnf hnl)
                clear hs8 hnf hnl HN8
                go_wp2_with (refine wpList_store_fresh rfl 55 (.tmp 13) (.tmp 77) rfl rfl (pv zeros) _ 55 rfl rfl (size55 Wf.zeros) rfl (pv_one _) ?_; intro w9 hk hb hs; have HB9 := Lib.hid hb; clear hk hb hs)
                go_roundw
                case rel =>
                  have hsz1 := HLen.out.2
                  have hsz2 := HW2.out.2
                  rw [Nat.add_mul] at hsz1
                  refine ⟨r, by omega, by rw [HJ.out]; go_num, ⟨⟨L2, fA2, fn2, fc2, lA2, ln2, lc2, HS82.out.below HB9.out, HRL2.out, ?_, ?_, ?_, ?_, ?_, ?_, by omega⟩, HRes8.out.old HB9.out, HTwo8.out.old HB9.out, HCh8.out.below (HB9.out.mono HCh8.out.size)⟩⟩
                  · have h1 := HDr.out.weak (K' := fun q => NK g fA' lA' q ∧ NK g fA2 lA2 q) fun q hq hn => ⟨hn, NK.new HN82.out.1 HN82.out.2 (Nat.lt_of_lt_of_le hq HB7.out.size) hn⟩
                    exact (((h1.below HB7.out).old (fun q hq hlt => HOld8.out q hq.1 hlt)).weak fun q _ hq => hq.2).below HB9.out
                  · exact NK.new HN82.out.1 HN82.out.2 (HC.out.res.old HB7.out).lt HNK.out.1
                  · exact NK.new HN82.out.1 HN82.out.2 (HC.out.two.old HB7.out).lt HNK.out.2
                  · exact HNO.out.1.trans (HN82.out.1.after HB7.out.size) HC.out.chg.size
                  · exact HNO.out.2.trans (HN82.out.2.after HB7.out.size) HC.out.chg.size
                  · exact Within.app.2 ⟨(Within.app.1 HWI.out).1, HW2.out.1⟩
                case measure => simp [intOf]; omega
        · have hg := Lib.hid (show firstF a n (18 - (v + 1)) (v + 1) = firstF a n 17 1 by
            rw [← HVF.out, show 18 - v = 18 - (v + 1) + 1 from by omega]; exact (firstF_go hvn hx0).symm)
          generalize a.getD v 0 = x at *
          have b1' : (x == 0) = false := by simp [hx0]
          have b2' : (x != 0) = true := by simp [hx0]
          go_wp2
          go_round
          case rel => exact ⟨v + 1, by omega, by omega, by go_num, hg.out⟩
          case measure => simp [intOf]; omega
      · have d1 : decide (v ≤ n) = false := by simp; omega
        have d2 : decide ((v : Int) ≤ n) = false := by simp; omega
        have e1 : decide (n < v) = true := by simp; omega
        have e2 : decide ((n : Int) < v) = true := by simp; omega
        have hF : firstF a n 17 1 = v := by rw [← HVF.out]; exact firstF_stop (fun h => hvn h.1)
        have hR : R = some a ∧ L1 = L := by
          have := Hfind2.out
          rw [hF, if_pos (by omega)] at this
          cases this
          exact ⟨rfl, rfl⟩
        obtain ⟨rfl, rfl⟩ := hR
        have HF := Lib.hid hF
        clear hF ih
        go_wp2_with (first | (refine wpList_load_blk rfl 55 (.tmp 6) rfl b1 rfl 55 (pv a) _ HMa.out.cur Try.underlying55 rfl (size55 HMa.out.wf) ?_) | (refine wpList_store_blk rfl 55 (.tmp 4) (.tmp 55) rfl rfl w.heap.size (pv a) (pv zeros) 55 rfl rfl HMa.out.res (size55 HMa.out.wf) (pvpv Wf.zeros HMa.out.wf) (pv_one _) ?_; intro w6 hk ho; have HK6 := Lib.hid hk; have HO6 := Lib.hid ho; clear hk ho))
        refine bodyPost_ret (v := .tuple #[.agg (pv a), .bool true]) ?_ rfl ?_
        · simp [results, Try.results38, asAddr, run_loadVar_row _ w.heap.size 55 55 (pv a) (0, 0) _ HK6.out Try.underlying55 rfl (size55 HMa.out.wf)]
        · exact ⟨rfl, HMa.out.wf, (Chg.of_below HMa.out.below).only HO6.out (Nat.le_refl _), fun e => by cases e⟩

end Go.Proofs.Ytekbkdbmkjdgbaa
