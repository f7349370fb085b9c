/- Walks: sum. -/
import Derived.Test.YtjienelkjpodkaaW20
namespace Go.Proofs.Ytjienelkjpodkaa
open Go.RowKit

/-- rows that a check may meet -/
def RowsOk (n : Nat) (l : List Row) : Prop := ∀ r ∈ l, r.1.length = n ∧ eachB r.1 (-large) large = true ∧ -large ≤ r.2 ∧ r.2 ≤ large
def SumPost (w : World) (V : Option Row) (e : Ending) (w' : World) : Prop :=
  ∃ A' n' c' z, e = .returned (.tuple #[.agg #[.slice A' n' c', .int .i64 z], .bool V.isSome]) ∧ Below w.heap.size w w' ∧ ∀ r, V = some r → RowIn w' (fun k => w.heap.size ≤ k) (.slice A' n' c') (.int .i64 z) r
theorem results_ct {P : Program} {fn : Func} {t t2 : Tmp} {ty : TypeId} (h : fn.results = #[.cell t2 ty, .tmp t]) (tmps : Array Value) (w : World) (v : Value) (h1 : tmps.getD t undef = v) (g : Nat) (ht : tmps.getD t2 undef = .pointer (some ⟨g, 0, none⟩)) (t' : TypeId) (cs : Array Value) (hb : Blk w g t' cs)
    {d : TypeDesc} (hu : P.underlying ty = some d) (hd : (match d with | .struct _ | .array _ _ => true | _ => false) = true) (hi : (P.info? ty).map (·.size) = some cs.size) : (results fn tmps).run P w = .ok (.tuple #[.agg cs, v]) w := by
  have h2 := run_loadVar_row w g t' ty cs (0, 0) d hb hu hd hi
  have e : tmps[t2]?.getD undef = .pointer (some ⟨g, 0, none⟩) := by simpa using ht
  have e1 : tmps[t]?.getD undef = v := by simpa using h1
  unfold results
  rw [h]
  simp [e, e1, asAddr, h2]

structure SumMem (w : World) (n : Nat) (o : List Int) (C : Int) (wr : World) : Prop where
  below : Below w.heap.size w wr
  b4 : Blk wr w.heap.size 37 #[.slice none 0 0, .int .i64 0]
  bq : Blk wr (w.heap.size + 1) 3 (pv o)
  b6 : Blk wr (w.heap.size + 2) 37 #[.slice (some ⟨w.heap.size + 1, 0, none⟩) n n, .int .i64 C]
  len : o.length = n
theorem SumMem.belowed {w wr w' : World} {n : Nat} {o : List Int} {C : Int} (h : SumMem w n o C wr) (hb : Below wr.heap.size wr w') : SumMem w n o C w' :=
  ⟨h.below.trans (hb.mono h.below.size), h.b4.old hb, h.bq.old hb, h.b6.old hb, h.len⟩
theorem SumMem.setq {w wr : World} {n : Nat} {o : List Int} {C : Int} (h : SumMem w n o C wr) (i : Nat) (z : Int) : SumMem w n (o.set i z) C (wr.setCell ⟨w.heap.size + 1, i, none⟩ (.int .i64 z)) := by
  have ho := Only.setCell wr (w.heap.size + 1) i (.int .i64 z)
  refine ⟨below_only h.below ho (by omega), h.b4.only ho (by omega), ?_, h.b6.only ho (by omega), by simp [h.len]⟩
  rw [← pv_set]
  exact h.bq.set_ i _
theorem SumMem.setC {w wr : World} {n : Nat} {o : List Int} {C : Int} (h : SumMem w n o C wr) (z : Int) : SumMem w n o z (wr.setCell ⟨w.heap.size + 2, 1, none⟩ (.int .i64 z)) := by
  have ho := Only.setCell wr (w.heap.size + 2) 1 (.int .i64 z)
  exact ⟨below_only h.below ho (by omega), h.b4.only ho (by omega), h.bq.only ho (by omega), h.b6.set_ 1 (.int .i64 z), h.len⟩
theorem addRow_len {o a : List Int} {m : Int} (h : o.length = a.length) : (addRow o m a).length = o.length := by simp [addRow, h]
theorem addRow_get {o a : List Int} {m x y : Int} {i : Nat} (hx : o[i]? = some x) (hy : a[i]? = some y) : (addRow o m a)[i]? = some (x + m * y) := by
  simp [addRow, List.getElem?_zipWith, hx, hy]
theorem addRow_i64 {o a : List Int} {m : Int} (ho : eachB o (-large) large = true) (ha : eachB a (-large) large = true) (hm : 0 ≤ m ∧ m ≤ 1000) : ∀ x ∈ addRow o m a, I64 x := fun x hx => by
  obtain ⟨i, hi⟩ := List.getElem?_of_mem hx
  unfold addRow at hi
  rw [List.getElem?_zipWith] at hi
  cases h1 : o[i]? with
  | none => rw [h1] at hi; cases hi
  | some p =>
    cases h2 : a[i]? with
    | none => rw [h1, h2] at hi; cases hi
    | some q =>
      rw [h1, h2] at hi
      cases hi
      have b1 := bet_iff.1 (all_mem ho h1)
      have b2 := bet_iff.1 (all_mem ha h2)
      have := mul_bounds (a := m) (b := q) (p := 1000) (q := large) (by omega) (by unfold large at *; omega) (by omega) (by unfold large; omega)
      unfold large at *
      unfold I64
      omega
theorem sum_step_none {l : List Row} {ms : List Int} {r : Row} {m : Int} {o : Row} (h : (eachB (addRow o.1 m r.1) (-large) large && bet (o.2 + m * r.2) (-large) large) = false) : sumFrom (r :: l) (m :: ms) o = none := by
  rw [sumFrom, h]; rfl
theorem sum_step {l : List Row} {ms : List Int} {r : Row} {m : Int} {o : Row} (h1 : eachB (addRow o.1 m r.1) (-large) large = true) (h2 : bet (o.2 + m * r.2) (-large) large = true) : sumFrom (r :: l) (m :: ms) o = sumFrom l ms (addRow o.1 m r.1, o.2 + m * r.2) := by
  rw [sumFrom, h1, h2]; rfl

set_option maxRecDepth 100000 in
set_option maxHeartbeats 4000000 in
/-- 'sum'. -/
theorem sum_c (K K' : Nat → Prop) (B M : Option Addr) (m d md n : Nat) (l : List Row) (ms : List Int) (w : World) (h : RR w K B m d l) (h' : R1 w K' M m md ms) (h0 : 1 ≤ m) (hn : n ≤ 12) (hl : RowsOk n l) (hms : eachB ms 0 1000 = true) (hm : m ≤ 1000000) :
    Calls Try.prog 43 #[.slice B m d, .slice M m md] w (SumPost w (sumF l ms)) := by
  have hlm := h.len
  have hlms := h'.len
  have hc1 := h.cap
  have hc2 := h'.cap
  have H1 := Lib.hid h
  have H2 := Lib.hid h'
  have HL := Lib.hid hl
  have HMs := Lib.hid hms
  obtain ⟨ad, r0, A0, n0, c0, rfl, _, hr0, hcu, _, hR0, _⟩ := h.at_ (k := 0) (by omega)
  have hn0 : n0 = n := by have := hR0.len; have := (hl r0 (List.mem_of_getElem? hr0)).1; omega
  subst hn0
  have HR := Lib.hid (show sumFrom (l.drop 0) (ms.drop 0) (List.replicate n0 0, 0) = sumF l ms by
    unfold sumF
    rw [List.getD_eq_getElem?_getD, hr0]
    simp [hR0.len])
  have hcu2 : (w.alloc (.cells #[.slice none 0 0, .int .i64 0] 37)).cell? ad = some (.slice A0 n0 c0) := cell_below ((Below.refl w.heap.size w).alloc (Nat.le_refl _) _) (by simpa [Addr.add] using hcu)
  generalize sumF l ms = R at *
  clear h h' hl hms hr0 hcu hR0
  go_enter Try.func43, Try.ntmps43
  go_wp2_with (first
    | (refine wpList_makeFull rfl (.tmp 15) (.tmp 15) 22 rfl (.int .i64 0) Try.underlying22 info3 rfl n0 rfl rfl (by omega) (by omega) ?_
       intro w5 hk hb hs
       have HM0 := Lib.hid (show SumMem w n0 (List.replicate n0 0) 0 (w5.alloc (.cells #[.slice (some ⟨w.heap.size + 1, 0, none⟩) n0 n0, .int .i64 0] 37)) from by
         have hb0 : Below w.heap.size w (w.alloc (.cells #[.slice none 0 0, .int .i64 0] 37)) := (Below.refl w.heap.size w).alloc (Nat.le_refl _) _
         have hs5 : w5.heap.size = w.heap.size + 2 := by simpa using hs
         have hk5 : Blk w5 (w.heap.size + 1) 3 (List.replicate n0 (Value.int .i64 0)).toArray := by simpa using hk
         have hk3 := Blk.new w5 37 #[.slice (some ⟨w.heap.size + 1, 0, none⟩) n0 n0, .int .i64 0]
         rw [hs5] at hk3
         refine ⟨(hb0.trans (hb.mono hb0.size)).alloc (by omega) _, ((Blk.new w 37 _).old hb).alloc _, ?_, hk3, by simp⟩
         have := hk5.alloc (.cells #[.slice (some ⟨w.heap.size + 1, 0, none⟩) n0 n0, .int .i64 0] 37)
         simpa [pv] using this)
       have hs5 : w5.heap.size = w.heap.size + 2 := by simpa using hs
       clear hk hb hs hcu2))
  go_loopw [20] (fun s20 wr => ∃ (k : Nat) (o : Row), k ≤ m ∧ s20 = .int .i64 k ∧ Hid (sumFrom (l.drop k) (ms.drop k) o = R) ∧ SumMem w n0 o.1 o.2 wr ∧ eachB o.1 (-large) large = true ∧ bet o.2 (-large) large = true) (fun s20 _ => m - (intOf s20).toNat)
  case atStart => exact ⟨0, (List.replicate n0 0, 0), Nat.zero_le _, rfl, HR, HM0.out, by unfold eachB; rw [List.all_replicate]; simp [bet, large], show bet 0 (-large) large = true by decide⟩
  case round =>
    clear HM0 HR hs5
    obtain ⟨k, o, hk, rfl, HRR, hmm, ho1, ho2⟩ := hrel
    obtain ⟨wx, rfl⟩ : ∃ wx : World, wx = wr := ⟨_, rfl⟩
    have HM := Lib.hid hmm
    have HO1 := Lib.hid ho1
    have HO2 := Lib.hid ho2
    by_cases hlt : k < m
    · obtain ⟨_, r, A', n', c', e1, _, hr, hcu, hcv, hR1, hI⟩ := ((H1.out.weak (K' := fun q => q < w.heap.size) fun q hq _ => hq).below hmm.below).at_ hlt
      cases e1
      obtain ⟨mad, mv, rfl, _, hmv, _, hmc⟩ := (H2.out.below hmm.below).at_ hlt
      have hrr := HL.out r (List.mem_of_getElem? hr)
      have hn' : n0 = n' := by have := hR1.len; omega
      subst hn'
      have hmb := bet_iff.1 (all_mem HMs.out hmv)
      have HLr := Lib.hid hrr
      have HI1 := Lib.hid hI
      have HD := Lib.hid (drop_cons_of hr)
      have HDm := Lib.hid (drop_cons_of hmv)
      have HCu := Lib.hid hcu
      have HCv := Lib.hid (show wx.cell? ((ad.add (k * 2)).add 1) = some (.int .i64 r.2) by rw [add_of_add]; exact hcv)
      have hbX : Below wx.heap.size wx (wx.alloc (.cells #[.slice A' n0 c', .int .i64 r.2] 37)) := (Below.refl _ _).alloc (Nat.le_refl _) _
      have hk8 : Blk (wx.alloc (.cells #[.slice A' n0 c', .int .i64 r.2] 37)) wx.heap.size 37 #[.slice A' n0 c', .int .i64 r.2] := Blk.new wx 37 _
      have HMX := Lib.hid (And.intro (hmm.belowed hbX) hk8)
      have HR1 := Lib.hid hR1
      have HMv := Lib.hid hmv
      have hwl := hmm.b6.lt
      have hlen := hmm.len
      have hpw : (r.2 : Int) ≤ 1099511627776 ∧ -1099511627776 ≤ r.2 := ⟨hrr.2.2.2, hrr.2.2.1⟩
      have hmr : -1099511627776000 ≤ mv * r.2 ∧ mv * r.2 ≤ 1099511627776000 := mul_bounds (a := mv) (b := r.2) (p := 1000) (q := 1099511627776) (by omega) (by omega) (by omega) (by omega)
      have hob : -1099511627776 ≤ o.2 ∧ o.2 ≤ 1099511627776 := bet_iff.1 ho2
      clear hmm ho1 ho2 hr hcu hcv hR1 hI hmv hmc hrr hbX hk8
      go_wp2_with (refine wpList_load_two rfl 37 (.tmp 23) rfl (ad.add (k * 2)) rfl _ _ HCu.out HCv.out Try.underlying37 size37 ?_)
      obtain ⟨w6, hw6⟩ : ∃ w6, w6 = wx.alloc (.cells #[.slice A' n0 c', .int .i64 r.2] 37) := ⟨_, rfl⟩
      rw [← hw6] at HMX ⊢
      clear hw6
      have HMX0 := Lib.hid (show SumMem w n0 ((addRow o.1 mv r.1).take 0 ++ o.1.drop 0) o.2 w6 by simpa using HMX.out.1)
      go_loopw [28] (fun s28 wr => ∃ (i : Nat), i ≤ n0 ∧ s28 = .int .i64 i ∧ SumMem w n0 ((addRow o.1 mv r.1).take i ++ o.1.drop i) o.2 wr ∧ Blk wr wx.heap.size 37 #[.slice A' n0 c', .int .i64 r.2]) (fun s28 _ => n0 - (intOf s28).toNat)
      case atStart => exact ⟨0, Nat.zero_le _, rfl, HMX0.out, HMX.out.2⟩
      case round =>
        clear HMX0 HMX
        obtain ⟨i, hi, rfl, hmm2, hk8⟩ := hrel
        obtain ⟨wy, rfl⟩ : ∃ wy : World, wy = wr := ⟨_, rfl⟩
        have hlt8 : wx.heap.size < wy.heap.size := hk8.lt
        by_cases hin : i < n0
        · obtain ⟨ad2, y, rfl, _, hy, _, hcy⟩ := (HR1.out.far HM.out.below hmm2.below).at_ hin
          obtain ⟨_, mv2, e2, _, hmv2, _, hmc⟩ := (H2.out.below hmm2.below).at_ hlt
          cases e2
          have e3 : mv2 = mv := by rw [HMv.out] at hmv2; cases hmv2; rfl
          subst e3
          obtain ⟨x, hx⟩ : ∃ x, o.1[i]? = some x := ⟨_, List.getElem?_eq_getElem (by omega)⟩
          have hfl : (addRow o.1 mv2 r.1).length = o.1.length := addRow_len (by rw [hlen, HLr.out.1])
          have hgx : ((addRow o.1 mv2 r.1).take i ++ o.1.drop i).getD i 0 = x := by
            rw [List.getD_eq_getElem?_getD, getElem_take_drop hfl (by omega), hx]; rfl
          have HNx := Lib.hid (fun (W : World) (hW : SumMem w n0 ((addRow o.1 mv2 r.1).take i ++ o.1.drop i) o.2 W) => show SumMem w n0 ((addRow o.1 mv2 r.1).take (i + 1) ++ o.1.drop (i + 1)) o.2 (W.setCell ⟨w.heap.size + 1, i, none⟩ (.int .i64 (x + mv2 * y))) from by
            rw [← take_set_drop hfl (addRow_get hx hy)]
            exact hW.setq i (x + mv2 * y))
          have bx := bet_iff.1 (all_mem HO1.out hx)
          have by' := bet_iff.1 (all_mem HLr.out.2.1 hy)
          have hmy : -1099511627776000 ≤ mv2 * y ∧ mv2 * y ≤ 1099511627776000 := mul_bounds (a := mv2) (b := y) (p := 1000) (q := 1099511627776) (by omega) (by unfold large at by'; omega) (by omega) (by omega)
          have hwi : -9223372036854775808 ≤ mv2 * y ∧ mv2 * y ≤ 9223372036854775807 := by omega
          have hwi2 : -9223372036854775808 ≤ x + mv2 * y ∧ x + mv2 * y ≤ 9223372036854775807 := by unfold large at bx; omega
          have hne8 : wx.heap.size ≠ w.heap.size + 1 := by omega
          have hi' : (i : Int) < n0 := by omega
          have hk' : (k : Int) < m := by omega
          have HMy := Lib.hid hmm2
          have HKy := Lib.hid hk8
          have HGx := Lib.hid hgx
          have HMc := Lib.hid hmc
          clear hmm2 hk8 hy hmv2 hx hfl hgx bx by' hmc
          go_upto_region 8 with fail
          clear hcy
          have hmm2 := HMy.out
          have hk8 := HKy.out
          have cq := hmm2.bq.cell i
          rw [pv_get (by have := hmm2.len; omega), HGx.out] at cq
          have c6 := hmm2.b6.cell 0
          have hcm := HMc.out
          obtain ⟨wz, hwz⟩ : ∃ wz, wz = wy.drew := ⟨_, rfl⟩
          have hbz : Below wy.heap.size wy wz := by rw [hwz]; exact (Below.refl _ _).drew
          refine wp_region_still_tail 13 (by kernel_rfl) (by kernel_rfl) ?_
          rw [show ({ heap := wy.heap, tape := wy.tape, drawn := wy.drawn + 1, os := wy.os, output := wy.output } : World) = wz from hwz.symm]
          simp only [List.take_succ_cons, List.take_zero, List.drop_succ_cons, List.drop_zero]
          clear hwz
          have z1 := cell_below hbz cq
          have z2 := cell_below hbz c6
          have z3 := cell_below hbz hcm
          have z4 : wz.frozen? ⟨w.heap.size + 1, i, none⟩ = false := (hmm2.belowed hbz).bq.frozen i
          have HMz := Lib.hid (hmm2.belowed hbz)
          have HKz := Lib.hid (hk8.old hbz)
          clear hbz cq c6 hcm hmm2 hk8
          repeat still_step
          refine wpStill_nil ?_
          simp only [i64_wrap (mv2 * y) hwi, i64_wrap (x + mv2 * y) hwi2]
          clear z2 z3
          go_wp2_with fail
          go_roundw
          case rel => exact ⟨i + 1, by omega, by go_num, HNx.out wz HMz.out, HKz.out.only (Only.setCell _ _ _ _) hne8⟩
          case measure => simp [intOf]; omega

        · obtain rfl : n0 = i := by omega
          have hfl : (addRow o.1 mv r.1).length = o.1.length := addRow_len (by rw [hlen, HLr.out.1])
          have hcur : (addRow o.1 mv r.1).take n0 ++ o.1.drop n0 = addRow o.1 mv r.1 := by rw [List.take_of_length_le (by omega), List.drop_eq_nil_of_le (by omega), List.append_nil]
          rw [hcur] at hmm2
          obtain ⟨_, mv2, e2, _, hmv2, _, hmc⟩ := (H2.out.below hmm2.below).at_ hlt
          cases e2
          have e3 : mv2 = mv := by rw [HMv.out] at hmv2; cases hmv2; rfl
          subst e3
          have HAi := Lib.hid (addRow_i64 (m := mv2) HO1.out HLr.out.2.1 hmb)
          have hk' : (k : Int) < m := by omega
          have HMy := Lib.hid hmm2
          have HKy := Lib.hid hk8
          have HMc0 := Lib.hid hmc
          have hwi : -9223372036854775808 ≤ mv2 * r.2 ∧ mv2 * r.2 ≤ 9223372036854775807 := by omega
          have hwi2 : -9223372036854775808 ≤ o.2 + mv2 * r.2 ∧ o.2 + mv2 * r.2 ≤ 9223372036854775807 := by omega
          clear hmm2 hk8 hmv2 hmc hfl hcur
          go_upto_region 10 with fail
          have k1 := HMy.out.b6.cell 1
          have k8 := HKy.out.cell 1
          have km := HMc0.out
          obtain ⟨wz, hwz⟩ : ∃ wz, wz = wy.drew := ⟨_, rfl⟩
          have hbz : Below wy.heap.size wy wz := by rw [hwz]; exact (Below.refl _ _).drew
          refine wp_region_still_tail 11 (by kernel_rfl) (by kernel_rfl) ?_
          rw [show ({ heap := wy.heap, tape := wy.tape, drawn := wy.drawn + 1, os := wy.os, output := wy.output } : World) = wz from hwz.symm]
          simp only [List.take_succ_cons, List.take_zero, List.drop_succ_cons, List.drop_zero]
          clear hwz
          have z1 := cell_below hbz k1
          have z2 := cell_below hbz k8
          have z3 := cell_below hbz km
          have z4 : wz.frozen? ⟨w.heap.size + 2, 1, none⟩ = false := (HMy.out.belowed hbz).b6.frozen 1
          have HMz := Lib.hid (HMy.out.belowed hbz)
          clear hbz k1 k8 km
          repeat still_step
          refine wpStill_nil ?_
          simp only [i64_wrap (mv2 * r.2) hwi, i64_wrap (o.2 + mv2 * r.2) hwi2]
          clear z2 z3
          have HMc := Lib.hid (HMz.out.setC (o.2 + mv2 * r.2))
          have w0 : (wz.setCell ⟨w.heap.size + 2, 1, none⟩ (.int .i64 (o.2 + mv2 * r.2))).cell? ⟨w.heap.size + 2, 0, none⟩ = some (.slice (some ⟨w.heap.size + 1, 0, none⟩) n0 n0) := HMc.out.b6.cell 0
          cases hE : eachB (addRow o.1 mv2 r.1) (-1099511627776) 1099511627776 with
          | false =>
            have HE := Lib.hid hE
            have HRb := Lib.hid (show R = none by
              rw [← HRR.out, HD.out, HDm.out]
              exact sum_step_none (by rw [show eachB (addRow o.1 mv2 r.1) (-large) large = false from hE]; rfl))
            clear hE
            go_wp2_with (first
              | (refine wpList_store_blk rfl 37 (.tmp 4) (.tmp 68) rfl rfl w.heap.size #[.slice none 0 0, .int .i64 0] _ 37 rfl rfl HM9.out.b4 size37 rfl (by simp [Value.oneCell']) ?_
                 intro w11 hk11 ho11
                 have HK11 := Lib.hid hk11
                 have HB11 := Lib.hid (below_only HM9.out.below ho11 (Nat.le_refl _))
                 clear hk11 ho11)
              | (go_at_call 25
                 refine (each_c (fun _ => True) (some ⟨w.heap.size + 1, 0, none⟩) n0 n0 (addRow o.1 mv2 r.1) (-1099511627776) 1099511627776 _ (HMc.out.bq.r1 (K := fun _ => True) trivial (by have := HMc.out.len; exact this) (by omega) HAi.out)).mono ?_
                 rw [HE.out]
                 rintro e w9 ⟨rfl, hb9⟩
                 have HM9 := Lib.hid (HMc.out.belowed hb9)
                 have k90 := HM9.out.b6.cell 0
                 have k91 := HM9.out.b6.cell 1
                 clear hb9))
            refine bodyPost_ret (results_ct rfl _ _ (.bool false) rfl w.heap.size rfl 37 _ HK11.out Try.underlying37 rfl size37) rfl ?_
            rw [HRb.out]
            exact ⟨_, _, _, _, rfl, HB11.out, fun r hr => by cases hr⟩
          | true =>
            have HE := Lib.hid hE
            cases hB : bet (o.2 + mv2 * r.2) (-1099511627776) 1099511627776 with
            | false =>
              have HBt := Lib.hid hB
              have HRb := Lib.hid (show R = none by
                rw [← HRR.out, HD.out, HDm.out]
                exact sum_step_none (by rw [show bet (o.2 + mv2 * r.2) (-large) large = false from hB]; simp))
              clear hE hB
              go_wp2_with (first
                | (refine wpList_store_blk rfl 37 (.tmp 4) (.tmp 68) rfl rfl w.heap.size #[.slice none 0 0, .int .i64 0] _ 37 rfl rfl HM9.out.b4 size37 rfl (by simp [Value.oneCell']) ?_
                   intro w11 hk11 ho11
                   have HK11 := Lib.hid hk11
                   have HB11 := Lib.hid (below_only HM9.out.below ho11 (Nat.le_refl _))
                   clear hk11 ho11)
                | (go_at_call 26
                   refine (between_c (o.2 + mv2 * r.2) (-1099511627776) 1099511627776 w9).mono ?_
                   rw [HBt.out]
                   rintro e w10 ⟨rfl, rfl⟩)
                | (go_at_call 25
                   refine (each_c (fun _ => True) (some ⟨w.heap.size + 1, 0, none⟩) n0 n0 (addRow o.1 mv2 r.1) (-1099511627776) 1099511627776 _ (HMc.out.bq.r1 (K := fun _ => True) trivial (by have := HMc.out.len; exact this) (by omega) HAi.out)).mono ?_
                   rw [HE.out]
                   rintro e w9 ⟨rfl, hb9⟩
                   have HM9 := Lib.hid (HMc.out.belowed hb9)
                   have k90 := HM9.out.b6.cell 0
                   have k91 := HM9.out.b6.cell 1
                   clear hb9))
              refine bodyPost_ret (results_ct rfl _ _ (.bool false) rfl w.heap.size rfl 37 _ HK11.out Try.underlying37 rfl size37) rfl ?_
              rw [HRb.out]
              exact ⟨_, _, _, _, rfl, HB11.out, fun r hr => by cases hr⟩
            | true =>
              have HBt := Lib.hid hB
              have HRN := Lib.hid (show sumFrom (l.drop (k + 1)) (ms.drop (k + 1)) (addRow o.1 mv2 r.1, o.2 + mv2 * r.2) = R by
                rw [← HRR.out, HD.out, HDm.out]
                exact (sum_step hE hB).symm)
              clear hE hB
              go_wp2_with (first
                | (go_at_call 26
                   refine (between_c (o.2 + mv2 * r.2) (-1099511627776) 1099511627776 w9).mono ?_
                   rw [HBt.out]
                   rintro e w10 ⟨rfl, rfl⟩)
                | (go_at_call 25
                   refine (each_c (fun _ => True) (some ⟨w.heap.size + 1, 0, none⟩) n0 n0 (addRow o.1 mv2 r.1) (-1099511627776) 1099511627776 _ (HMc.out.bq.r1 (K := fun _ => True) trivial (by have := HMc.out.len; exact this) (by omega) HAi.out)).mono ?_
                   rw [HE.out]
                   rintro e w9 ⟨rfl, hb9⟩
                   have HM9 := Lib.hid (HMc.out.belowed hb9)
                   have k90 := HM9.out.b6.cell 0
                   have k91 := HM9.out.b6.cell 1
                   clear hb9))
              go_roundw
              case rel => exact ⟨k + 1, (addRow o.1 mv2 r.1, o.2 + mv2 * r.2), by omega, by go_num, HRN, HM9.out, HE.out, HBt.out⟩
              case measure => simp [intOf]; omega

    · obtain rfl : m = k := by omega
      have hr := HRR.out
      rw [List.drop_eq_nil_of_le (by omega), List.drop_eq_nil_of_le (by omega)] at hr
      have Hr := Lib.hid (show some o = R from hr)
      clear hr
      have HAi := Lib.hid (show ∀ x ∈ o.1, I64 x from fun x hx => by have := bet_iff.1 (List.all_eq_true.1 ho1 x hx); unfold large at this; unfold I64; omega)
      clear hmm ho1 ho2
      go_wp2_with (first
        | (refine wpList_store_blk rfl 37 (.tmp 4) (.tmp 70) rfl rfl w.heap.size #[.slice (some ⟨w.heap.size + 1, 0, none⟩) n0 n0, .int .i64 o.2] _ 37 rfl rfl HM.out.b4 size37 rfl (by simp [Value.oneCell']) ?_
           intro w11 hk11 ho11
           have HK11 := Lib.hid hk11
           have HB11 := Lib.hid (below_only HM.out.below ho11 (Nat.le_refl _))
           have HQ11 := Lib.hid (HM.out.bq.only ho11 (by omega))
           clear hk11 ho11)
        | (refine wpList_load_blk rfl 37 (.tmp 6) rfl (w.heap.size + 2) rfl 37 #[.slice (some ⟨w.heap.size + 1, 0, none⟩) n0 n0, .int .i64 o.2] _ HM.out.b6 Try.underlying37 rfl size37 ?_))
      refine bodyPost_ret (results_ct rfl _ _ (.bool true) rfl w.heap.size rfl 37 _ HK11.out Try.underlying37 rfl size37) rfl ?_
      rw [← Hr.out]
      exact ⟨_, _, _, _, rfl, HB11.out, fun r hr => by
        cases hr
        exact ⟨_, _, _, rfl, rfl, HQ11.out.r1 (Nat.le_succ _) HM.out.len (by omega) HAi.out, by have := bet_iff.1 HO2.out; unfold large at this; unfold I64; omega⟩⟩
end Go.Proofs.Ytjienelkjpodkaa
