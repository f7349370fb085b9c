/- Walks: closes. -/
import Derived.Test.YtjienelkjpodkaaL14
namespace Go.Proofs.Ytjienelkjpodkaa
open Go.RowKit

theorem run_alloc49 {o : Oper} {ρ : Operand → Value} (ho : o.op = .alloc 49) (w : World) : (execOp ρ o).run Try.prog w = .ok (.value (.pointer (some ⟨w.heap.size, 0, none⟩))) (w.alloc (.cells #[.int .i64 0, .slice none 0 0, .int .i64 0, .int .i64 0, .int .i64 0, .int .i64 0, .int .i64 0, .int .i64 0] 49)) := by
  have hz : (Try.prog.info? 49).map (fun i => i.zero) = some (some (.agg #[.int .i64 0, .slice none 0 0, .int .i64 0, .int .i64 0, .int .i64 0, .int .i64 0, .int .i64 0, .int .i64 0])) := by kernel_rfl
  cases hi : Try.prog.info? 49 with
  | none => rw [hi] at hz; cases hz
  | some i =>
    rw [hi] at hz
    simp only [Option.map_some, Option.some.injEq] at hz
    unfold execOp
    simp [ho, Instr.alloc, zeroValue, typeInfo, hi, hz, newVar, newRow, Value.cells]

theorem add_zero_ (x : Addr) : x.add 0 = x := by simp [Addr.add]
theorem add_lit (x : Addr) {j : Nat} (h : j ≠ 0) : x.add j = ⟨x.block, x.off + j, none⟩ := by unfold Addr.add; simp [h]
/-- the memory of closes, behind its beginning -/
structure ClMem (w : World) (A : Option Addr) (n c : Nat) (B : Option Addr) (m d : Nat) (P : Option Addr) (pn pc : Nat) (L : Option Addr) (ln lc g9 : Nat) (cs : Array Value) (wr : World) : Prop where
  below : Below w.heap.size w wr
  bs : Blk wr w.heap.size 25 #[.slice A n c, .slice B m d]
  bp : Blk wr (w.heap.size + 1) 29 #[.slice P pn pc]
  bl : Blk wr (w.heap.size + 1 + 1) 23 #[.slice L ln lc]
  b9 : Blk wr g9 49 cs
theorem ClMem.belowed {w : World} {A : Option Addr} {n c : Nat} {B : Option Addr} {m d : Nat} {P : Option Addr} {pn pc : Nat} {L : Option Addr} {ln lc g9 : Nat} {cs : Array Value} {wr w' : World} (h : ClMem w A n c B m d P pn pc L ln lc g9 cs wr) (hb : Below wr.heap.size wr w') : ClMem w A n c B m d P pn pc L ln lc g9 cs w' :=
  ⟨h.below.trans (hb.mono h.below.size), h.bs.old hb, h.bp.old hb, h.bl.old hb, h.b9.old hb⟩

set_option maxRecDepth 100000 in
set_option maxHeartbeats 4000000 in
/-- 'closes', one step -/
theorem closes_step1 (A : Option Addr) (n c : Nat) (B : Option Addr) (m d : Nat) (P : Option Addr) (pn pc : Nat) (p : List Step) (fu : Nat) (_hn1 : 1 ≤ n) (hn12 : n ≤ 12) (_hnc : n ≤ c) (hp1e5 : pn ≤ 100000) (hT : TreeOk p) (ih : CIH A n c B m d P pn pc p fu) (at' : Nat) (L : Option Addr) (ln lc : Nat) (l : List Row) (w : World) (h1 : RP w TT P pn pc p) (h2 : RR w TT L ln lc l) (hl : RowsOk n l) (hln : 1 ≤ ln) (hat : at' < pn) (hfu : pn - at' ≤ fu + 1) (hb : ln + (pn - at') ≤ 200000) (hkN : ∀ x, p[at']? = some x → x.kind = 1) :
    Calls Try.prog 30 #[.agg #[.slice A n c, .slice B m d], .slice P pn pc, .int .i64 at', .slice L ln lc] w (Gives w (.bool (closesF n p (fu + 1) at' l))) := by
  obtain ⟨ad, s, mA, mn, mc, rfl, hs, hwf, hR1, hmn, hcells⟩ := h1.step_ hat
  obtain ⟨hso, hnx, hel⟩ := hT.ok at' s hs
  obtain ⟨kd, sm, sr, sd, sx, sk, snx, sel⟩ := s
  dsimp only at hs hwf hR1 hmn hcells hso hnx hel
  have hpl := h1.len
  have hll := h2.len
  have hcap := h2.cap
  have hpcap := h1.cap
  have HS := Lib.hid hs
  have HW := Lib.hid hwf
  have HMn := Lib.hid hmn
  have HM := Lib.hid hR1
  have H1 := Lib.hid h1
  have H2 := Lib.hid h2
  have HL := Lib.hid hl
  have HNx := Lib.hid hnx
  have HEl := Lib.hid hel
  have HSo := Lib.hid hso
  have IH := Lib.hid ih
  have HC := Lib.hid hcells
  have hmf := run_makeFunc
  have hati : (at' : Int) < pn := by omega
  have hk0 := ((Blk.new w 25 #[.slice A n c, .slice B m d]).alloc (.cells #[.slice (some ad) pn pc] 29)).alloc (.cells #[.slice L ln lc] 23)
  have hk1 : Blk (((w.alloc (.cells #[.slice A n c, .slice B m d] 25)).alloc (.cells #[.slice (some ad) pn pc] 29)).alloc (.cells #[.slice L ln lc] 23)) (w.heap.size + 1) 29 #[.slice (some ad) pn pc] := by
    have := (Blk.new (w.alloc (.cells #[.slice A n c, .slice B m d] 25)) 29 #[.slice (some ad) pn pc]).alloc (.cells #[.slice L ln lc] 23)
    simpa using this
  have hk2 : Blk (((w.alloc (.cells #[.slice A n c, .slice B m d] 25)).alloc (.cells #[.slice (some ad) pn pc] 29)).alloc (.cells #[.slice L ln lc] 23)) (w.heap.size + 2) 23 #[.slice L ln lc] := by
    have := Blk.new ((w.alloc (.cells #[.slice A n c, .slice B m d] 25)).alloc (.cells #[.slice (some ad) pn pc] 29)) 23 #[.slice L ln lc]
    simpa using this
  have hb0 : Below w.heap.size w (((w.alloc (.cells #[.slice A n c, .slice B m d] 25)).alloc (.cells #[.slice (some ad) pn pc] 29)).alloc (.cells #[.slice L ln lc] 23)) := (((Below.refl w.heap.size w).alloc (Nat.le_refl _) _).alloc (by simp) _).alloc (by simp; omega) _
  have HK := Lib.hid (And.intro hk0 (And.intro hk1 (And.intro hk2 hb0)))
  clear ih h1 h2 hl hs hwf hR1 hmn hcells hso hnx hel hk0 hk1 hk2 hb0 hpl
  go_enter Try.func30, Try.ntmps30
  go_wp2_with fail
  obtain ⟨w1, hw1⟩ : ∃ w1, w1 = ((w.alloc (.cells #[.slice A n c, .slice B m d] 25)).alloc (.cells #[.slice (some ad) pn pc] 29)).alloc (.cells #[.slice L ln lc] 23) := ⟨_, rfl⟩
  rw [← hw1] at HK ⊢
  clear hw1
  have HA8 := Lib.hid (fun (W : World) (hb : Below w.heap.size w W) => show W.cell? (ad.add (at' * 8)) = some (.int .i64 kd) ∧ W.cell? ⟨(ad.add (at' * 8)).block, (ad.add (at' * 8)).off + 1, none⟩ = some (.slice mA mn mc) ∧ W.cell? ⟨(ad.add (at' * 8)).block, (ad.add (at' * 8)).off + 2, none⟩ = some (.int .i64 sr) ∧ W.cell? ⟨(ad.add (at' * 8)).block, (ad.add (at' * 8)).off + 3, none⟩ = some (.int .i64 sd) ∧ W.cell? ⟨(ad.add (at' * 8)).block, (ad.add (at' * 8)).off + 4, none⟩ = some (.int .i64 sx) ∧ W.cell? ⟨(ad.add (at' * 8)).block, (ad.add (at' * 8)).off + 5, none⟩ = some (.int .i64 sk) ∧ W.cell? ⟨(ad.add (at' * 8)).block, (ad.add (at' * 8)).off + 6, none⟩ = some (.int .i64 snx) ∧ W.cell? ⟨(ad.add (at' * 8)).block, (ad.add (at' * 8)).off + 7, none⟩ = some (.int .i64 sel) from
    ⟨cell_below hb (by have := HC.out 0 _ rfl; rwa [add_zero_] at this), cell_below hb (by have := HC.out 1 _ rfl; rwa [add_lit _ (by decide)] at this), cell_below hb (by have := HC.out 2 _ rfl; rwa [add_lit _ (by decide)] at this), cell_below hb (by have := HC.out 3 _ rfl; rwa [add_lit _ (by decide)] at this), cell_below hb (by have := HC.out 4 _ rfl; rwa [add_lit _ (by decide)] at this), cell_below hb (by have := HC.out 5 _ rfl; rwa [add_lit _ (by decide)] at this), cell_below hb (by have := HC.out 6 _ rfl; rwa [add_lit _ (by decide)] at this), cell_below hb (by have := HC.out 7 _ rfl; rwa [add_lit _ (by decide)] at this)⟩)
  have HCC := Lib.hid (fun (W : World) (hb : Below w1.heap.size w1 W) => show W.cell? ⟨w.heap.size, 0, none⟩ = some (.slice A n c) ∧ W.cell? ⟨w.heap.size + 1, 0, none⟩ = some (.slice (some ad) pn pc) ∧ W.cell? (ad.add (at' * 8)) = some (.int .i64 kd) ∧ W.cell? ⟨(ad.add (at' * 8)).block, (ad.add (at' * 8)).off + 1, none⟩ = some (.slice mA mn mc) ∧ W.cell? ⟨(ad.add (at' * 8)).block, (ad.add (at' * 8)).off + 2, none⟩ = some (.int .i64 sr) ∧ W.cell? ⟨(ad.add (at' * 8)).block, (ad.add (at' * 8)).off + 3, none⟩ = some (.int .i64 sd) ∧ W.cell? ⟨(ad.add (at' * 8)).block, (ad.add (at' * 8)).off + 4, none⟩ = some (.int .i64 sx) ∧ W.cell? ⟨(ad.add (at' * 8)).block, (ad.add (at' * 8)).off + 5, none⟩ = some (.int .i64 sk) ∧ W.cell? ⟨(ad.add (at' * 8)).block, (ad.add (at' * 8)).off + 6, none⟩ = some (.int .i64 snx) ∧ W.cell? ⟨(ad.add (at' * 8)).block, (ad.add (at' * 8)).off + 7, none⟩ = some (.int .i64 sel) from
    ⟨(HK.out.1.old hb).cell 0, (HK.out.2.1.old hb).cell 0, HA8.out W (HK.out.2.2.2.trans (hb.mono HK.out.2.2.2.size))⟩)
  go_region_held3 (fun w' => w'.cell? ⟨w.heap.size, 0, none⟩ = some (.slice A n c) ∧ w'.cell? ⟨w.heap.size + 1, 0, none⟩ = some (.slice (some ad) pn pc) ∧ w'.cell? (ad.add (at' * 8)) = some (.int .i64 kd) ∧ w'.cell? ⟨(ad.add (at' * 8)).block, (ad.add (at' * 8)).off + 1, none⟩ = some (.slice mA mn mc) ∧ w'.cell? ⟨(ad.add (at' * 8)).block, (ad.add (at' * 8)).off + 2, none⟩ = some (.int .i64 sr) ∧ w'.cell? ⟨(ad.add (at' * 8)).block, (ad.add (at' * 8)).off + 3, none⟩ = some (.int .i64 sd) ∧ w'.cell? ⟨(ad.add (at' * 8)).block, (ad.add (at' * 8)).off + 4, none⟩ = some (.int .i64 sx) ∧ w'.cell? ⟨(ad.add (at' * 8)).block, (ad.add (at' * 8)).off + 5, none⟩ = some (.int .i64 sk) ∧ w'.cell? ⟨(ad.add (at' * 8)).block, (ad.add (at' * 8)).off + 6, none⟩ = some (.int .i64 snx) ∧ w'.cell? ⟨(ad.add (at' * 8)).block, (ad.add (at' * 8)).off + 7, none⟩ = some (.int .i64 sel))
    (first
      | exact HCC.out _ ((Below.refl w1.heap.size w1).drew)
      | exact HCC.out _ (((Below.refl w1.heap.size w1).drew).alloc (Nat.le_refl _) _)
      | exact HCC.out _ (((Below.refl w1.heap.size w1).alloc (Nat.le_refl _) _).drew))
    (first | fail)
  have hw1s : w.heap.size + 2 < w1.heap.size := HK.out.2.2.1.lt
  have HM2 := Lib.hid (show ClMem w A n c B m d (some ad) pn pc L ln lc w1.heap.size #[.int .i64 kd, .slice mA mn mc, .int .i64 sr, .int .i64 sd, .int .i64 sx, .int .i64 sk, .int .i64 snx, .int .i64 sel] (w1.alloc (.cells #[.int .i64 kd, .slice mA mn mc, .int .i64 sr, .int .i64 sd, .int .i64 sx, .int .i64 sk, .int .i64 snx, .int .i64 sel] 49)).drew from by
    have hbd : Below w1.heap.size w1 (w1.alloc (.cells #[.int .i64 kd, .slice mA mn mc, .int .i64 sr, .int .i64 sd, .int .i64 sx, .int .i64 sk, .int .i64 snx, .int .i64 sel] 49)).drew := ((Below.refl w1.heap.size w1).alloc (Nat.le_refl _) _).drew
    exact ⟨HK.out.2.2.2.trans (hbd.mono HK.out.2.2.2.size), HK.out.1.old hbd, HK.out.2.1.old hbd, HK.out.2.2.1.old hbd, blk_drew (Blk.new w1 49 _)⟩)
  clear HCC HA8
  generalize (w1.alloc (.cells #[.int .i64 kd, .slice mA mn mc, .int .i64 sr, .int .i64 sd, .int .i64 sx, .int .i64 sk, .int .i64 snx, .int .i64 sel] 49)).drew = w2 at *
  generalize w1.heap.size = g9 at *
  clear HK
  have H1w := Lib.hid (H1.out.below HM2.out.below)
  have H2w := Lib.hid (H2.out.below HM2.out.below)
  have HMw := Lib.hid (HM.out.below HM2.out.below)
  have hk : kd = 1 := hkN _ HS.out
  clear hkN
  have x0 := HM2.out.b9.cell 0
  have x1 := HM2.out.b9.cell 1
  have x2 := HM2.out.b9.cell 2
  have x3 := HM2.out.b9.cell 3
  have x4 := HM2.out.b9.cell 4
  have x5 := HM2.out.b9.cell 5
  have x6 := HM2.out.b9.cell 6
  have x7 := HM2.out.b9.cell 7
  have xL : w2.cell? ⟨w.heap.size + 1 + 1, 0, none⟩ = some (.slice L ln lc) := HM2.out.bl.cell 0
  have xS : w2.cell? ⟨w.heap.size, 0, none⟩ = some (.slice A n c) := HM2.out.bs.cell 0
  subst hk
  obtain ⟨nx, rfl⟩ := Int.eq_ofNat_of_zero_le (a := snx) (by have := HNx.out (by decide); omega)
  have HNi := Lib.hid (show at' < nx ∧ nx < pn by have := HNx.out (by decide); have := H1.out.len; omega)
  have hnx1 := HNi.out.1
  have hnx2 := HNi.out.2
  have hcl := closes_1 (n := n) (fu := fu) (l := l) HS.out rfl
  dsimp only at hcl
  by_cases hm : sm.length = l.length
  · have e5 : ln = mn := by have := HMn.out; omega
    subst e5
    cases hE : eachB sm 0 1000 with
    | false =>
      have HE := Lib.hid hE
      have Hcl := Lib.hid (show closesF n p (fu + 1) at' l = false by rw [hcl, hE]; simp)
      clear hcl hE
      go_wp2_with (first
        | (go_at_call 25
           refine (each_c TT mA ln mc sm 0 1000 w2 HMw.out).mono ?_
           rw [HE.out]
           rintro e w3 ⟨rfl, hb3⟩
           have HM3 := Lib.hid (HM2.out.belowed hb3)
           have hm3 := HM2.out.belowed hb3
           have HB3 := Lib.hid hb3
           have y1 := hm3.b9.cell 1
           have y6 := hm3.b9.cell 6
           have yL : w3.cell? ⟨w.heap.size + 1 + 1, 0, none⟩ = some (.slice L ln lc) := hm3.bl.cell 0
           clear hb3 hm3))
      go_ret
      exact ⟨ret_bool Hcl.out.symm, HM3.out.below⟩
    | true =>
      have HE := Lib.hid hE
      cases hS : sumF l sm with
      | none =>
        have HSm := Lib.hid hS
        have Hcl := Lib.hid (show closesF n p (fu + 1) at' l = false by rw [hcl, hS]; simp)
        clear hcl hE hS
        go_wp2_with (first
          | (go_at_call 43
             refine (sum_c TT TT L mA ln lc mc n l sm w3 (H2w.out.below HB3.out) (HMw.out.below HB3.out) hln hn12 HL.out HE.out (by omega)).mono ?_
             rw [HSm.out]
             rintro e w4 ⟨A4, n4, c4, z4, rfl, hb4, hr4⟩
             have HR4 := Lib.hid hr4
             have HB4 := Lib.hid (HB3.out.trans (hb4.mono HB3.out.size))
             have hm4 := HM3.out.belowed (hb4.trans ((Below.refl w4.heap.size w4).alloc (Nat.le_refl _) (.cells #[.slice A4 n4 c4, .int .i64 z4] 37) |>.mono hb4.size))
             have z6 := hm4.b9.cell 6
             have HM4 := Lib.hid hm4
             clear hb4 hr4 hm4)
          | (go_at_call 25
             refine (each_c TT mA ln mc sm 0 1000 w2 HMw.out).mono ?_
             rw [HE.out]
             rintro e w3 ⟨rfl, hb3⟩
             have HM3 := Lib.hid (HM2.out.belowed hb3)
             have hm3 := HM2.out.belowed hb3
             have HB3 := Lib.hid hb3
             have y1 := hm3.b9.cell 1
             have y6 := hm3.b9.cell 6
             have yL : w3.cell? ⟨w.heap.size + 1 + 1, 0, none⟩ = some (.slice L ln lc) := hm3.bl.cell 0
             clear hb3 hm3))
        go_ret
        exact ⟨ret_bool Hcl.out.symm, HM4.out.below⟩
      | some r =>
        have HSm := Lib.hid hS
        have HRok := Lib.hid (sum_ok HL.out (by omega) hS)
        have Hcl := Lib.hid (show closesF n p (fu + 1) at' l = closesF n p fu nx (l ++ [r]) by rw [hcl, hE, hS, decide_eq_true hm]; rfl)
        clear hcl hE hS
        go_wp2_with (first
          | (go_at_call 41
             refine (next_c A n c B m d (some ad) pn pc p fu IH.out w.heap.size (w.heap.size + 1) (w.heap.size + 1 + 1) nx L ln lc l (.slice A4 n4 c4) (.int .i64 z4) r _ HM4.out.bs HM4.out.bp HM4.out.bl (H1w.out.below (HB4.out.trans (((Below.refl w4.heap.size w4).alloc (Nat.le_refl _) (.cells #[.slice A4 n4 c4, .int .i64 z4] 37)).mono HB4.out.size))) (H2w.out.below (HB4.out.trans (((Below.refl w4.heap.size w4).alloc (Nat.le_refl _) (.cells #[.slice A4 n4 c4, .int .i64 z4] 37)).mono HB4.out.size))) ((HR4.out r rfl).weak (fun _ _ _ => trivial) |>.old (Old.of_below ((Below.refl w4.heap.size w4).alloc (Nat.le_refl _) _))) HL.out HRok.out HNi.out.2 (by omega) (by omega)).mono ?_
             rintro e w5 ⟨rfl, hbw5⟩
             have HMF := Lib.hid (HM2.out.below.trans (((HB4.out.trans (((Below.refl w4.heap.size w4).alloc (Nat.le_refl _) (.cells #[.slice A4 n4 c4, .int .i64 z4] 37)).mono HB4.out.size)).trans (hbw5.mono (HB4.out.trans (((Below.refl w4.heap.size w4).alloc (Nat.le_refl _) (.cells #[.slice A4 n4 c4, .int .i64 z4] 37)).mono HB4.out.size)).size)).mono HM2.out.below.size))
             clear hbw5)
          | (go_at_call 43
             refine (sum_c TT TT L mA ln lc mc n l sm w3 (H2w.out.below HB3.out) (HMw.out.below HB3.out) hln hn12 HL.out HE.out (by omega)).mono ?_
             rw [HSm.out]
             rintro e w4 ⟨A4, n4, c4, z4, rfl, hb4, hr4⟩
             have HR4 := Lib.hid hr4
             have HB4 := Lib.hid (HB3.out.trans (hb4.mono HB3.out.size))
             have hm4 := HM3.out.belowed (hb4.trans ((Below.refl w4.heap.size w4).alloc (Nat.le_refl _) (.cells #[.slice A4 n4 c4, .int .i64 z4] 37) |>.mono hb4.size))
             have z6 := hm4.b9.cell 6
             have HM4 := Lib.hid hm4
             clear hb4 hr4 hm4)
          | (go_at_call 25
             refine (each_c TT mA ln mc sm 0 1000 w2 HMw.out).mono ?_
             rw [HE.out]
             rintro e w3 ⟨rfl, hb3⟩
             have HM3 := Lib.hid (HM2.out.belowed hb3)
             have hm3 := HM2.out.belowed hb3
             have HB3 := Lib.hid hb3
             have y1 := hm3.b9.cell 1
             have y6 := hm3.b9.cell 6
             have yL : w3.cell? ⟨w.heap.size + 1 + 1, 0, none⟩ = some (.slice L ln lc) := hm3.bl.cell 0
             clear hb3 hm3))
        go_ret
        exact ⟨ret_bool Hcl.out.symm, HMF.out⟩
  · have e5 : (mn : Int) ≠ ln := by have := HMn.out; omega
    have e5n : mn ≠ ln := by omega
    have e5b : ((mn : Int) != ln) = true := by simp; omega
    have e5c : (mn != ln) = true := by simp; omega
    have Hcl := Lib.hid (show closesF n p (fu + 1) at' l = false by rw [hcl, decide_eq_false hm]; rfl)
    clear hcl hm
    go_wp2_with fail
    go_ret
    exact ⟨ret_bool Hcl.out.symm, HM2.out.below⟩

set_option maxRecDepth 100000 in
set_option maxHeartbeats 4000000 in
/-- 'closes', one step -/
theorem closes_step2 (A : Option Addr) (n c : Nat) (B : Option Addr) (m d : Nat) (P : Option Addr) (pn pc : Nat) (p : List Step) (fu : Nat) (hn1 : 1 ≤ n) (hn12 : n ≤ 12) (_hnc : n ≤ c) (hp1e5 : pn ≤ 100000) (hT : TreeOk p) (ih : CIH A n c B m d P pn pc p fu) (at' : Nat) (L : Option Addr) (ln lc : Nat) (l : List Row) (w : World) (h1 : RP w TT P pn pc p) (h2 : RR w TT L ln lc l) (hl : RowsOk n l) (hln : 1 ≤ ln) (hat : at' < pn) (hfu : pn - at' ≤ fu + 1) (hb : ln + (pn - at') ≤ 200000) (hkN : ∀ x, p[at']? = some x → x.kind = 2) :
    Calls Try.prog 30 #[.agg #[.slice A n c, .slice B m d], .slice P pn pc, .int .i64 at', .slice L ln lc] w (Gives w (.bool (closesF n p (fu + 1) at' l))) := by
  obtain ⟨ad, s, mA, mn, mc, rfl, hs, hwf, hR1, hmn, hcells⟩ := h1.step_ hat
  obtain ⟨hso, hnx, hel⟩ := hT.ok at' s hs
  obtain ⟨kd, sm, sr, sd, sx, sk, snx, sel⟩ := s
  dsimp only at hs hwf hR1 hmn hcells hso hnx hel
  have hpl := h1.len
  have hll := h2.len
  have hcap := h2.cap
  have hpcap := h1.cap
  have HS := Lib.hid hs
  have HW := Lib.hid hwf
  have HMn := Lib.hid hmn
  have HM := Lib.hid hR1
  have H1 := Lib.hid h1
  have H2 := Lib.hid h2
  have HL := Lib.hid hl
  have HNx := Lib.hid hnx
  have HEl := Lib.hid hel
  have HSo := Lib.hid hso
  have IH := Lib.hid ih
  have HC := Lib.hid hcells
  have hmf := run_makeFunc
  have hati : (at' : Int) < pn := by omega
  have hk0 := ((Blk.new w 25 #[.slice A n c, .slice B m d]).alloc (.cells #[.slice (some ad) pn pc] 29)).alloc (.cells #[.slice L ln lc] 23)
  have hk1 : Blk (((w.alloc (.cells #[.slice A n c, .slice B m d] 25)).alloc (.cells #[.slice (some ad) pn pc] 29)).alloc (.cells #[.slice L ln lc] 23)) (w.heap.size + 1) 29 #[.slice (some ad) pn pc] := by
    have := (Blk.new (w.alloc (.cells #[.slice A n c, .slice B m d] 25)) 29 #[.slice (some ad) pn pc]).alloc (.cells #[.slice L ln lc] 23)
    simpa using this
  have hk2 : Blk (((w.alloc (.cells #[.slice A n c, .slice B m d] 25)).alloc (.cells #[.slice (some ad) pn pc] 29)).alloc (.cells #[.slice L ln lc] 23)) (w.heap.size + 2) 23 #[.slice L ln lc] := by
    have := Blk.new ((w.alloc (.cells #[.slice A n c, .slice B m d] 25)).alloc (.cells #[.slice (some ad) pn pc] 29)) 23 #[.slice L ln lc]
    simpa using this
  have hb0 : Below w.heap.size w (((w.alloc (.cells #[.slice A n c, .slice B m d] 25)).alloc (.cells #[.slice (some ad) pn pc] 29)).alloc (.cells #[.slice L ln lc] 23)) := (((Below.refl w.heap.size w).alloc (Nat.le_refl _) _).alloc (by simp) _).alloc (by simp; omega) _
  have HK := Lib.hid (And.intro hk0 (And.intro hk1 (And.intro hk2 hb0)))
  clear ih h1 h2 hl hs hwf hR1 hmn hcells hso hnx hel hk0 hk1 hk2 hb0 hpl
  go_enter Try.func30, Try.ntmps30
  go_wp2_with fail
  obtain ⟨w1, hw1⟩ : ∃ w1, w1 = ((w.alloc (.cells #[.slice A n c, .slice B m d] 25)).alloc (.cells #[.slice (some ad) pn pc] 29)).alloc (.cells #[.slice L ln lc] 23) := ⟨_, rfl⟩
  rw [← hw1] at HK ⊢
  clear hw1
  have HA8 := Lib.hid (fun (W : World) (hb : Below w.heap.size w W) => show W.cell? (ad.add (at' * 8)) = some (.int .i64 kd) ∧ W.cell? ⟨(ad.add (at' * 8)).block, (ad.add (at' * 8)).off + 1, none⟩ = some (.slice mA mn mc) ∧ W.cell? ⟨(ad.add (at' * 8)).block, (ad.add (at' * 8)).off + 2, none⟩ = some (.int .i64 sr) ∧ W.cell? ⟨(ad.add (at' * 8)).block, (ad.add (at' * 8)).off + 3, none⟩ = some (.int .i64 sd) ∧ W.cell? ⟨(ad.add (at' * 8)).block, (ad.add (at' * 8)).off + 4, none⟩ = some (.int .i64 sx) ∧ W.cell? ⟨(ad.add (at' * 8)).block, (ad.add (at' * 8)).off + 5, none⟩ = some (.int .i64 sk) ∧ W.cell? ⟨(ad.add (at' * 8)).block, (ad.add (at' * 8)).off + 6, none⟩ = some (.int .i64 snx) ∧ W.cell? ⟨(ad.add (at' * 8)).block, (ad.add (at' * 8)).off + 7, none⟩ = some (.int .i64 sel) from
    ⟨cell_below hb (by have := HC.out 0 _ rfl; rwa [add_zero_] at this), cell_below hb (by have := HC.out 1 _ rfl; rwa [add_lit _ (by decide)] at this), cell_below hb (by have := HC.out 2 _ rfl; rwa [add_lit _ (by decide)] at this), cell_below hb (by have := HC.out 3 _ rfl; rwa [add_lit _ (by decide)] at this), cell_below hb (by have := HC.out 4 _ rfl; rwa [add_lit _ (by decide)] at this), cell_below hb (by have := HC.out 5 _ rfl; rwa [add_lit _ (by decide)] at this), cell_below hb (by have := HC.out 6 _ rfl; rwa [add_lit _ (by decide)] at this), cell_below hb (by have := HC.out 7 _ rfl; rwa [add_lit _ (by decide)] at this)⟩)
  have HCC := Lib.hid (fun (W : World) (hb : Below w1.heap.size w1 W) => show W.cell? ⟨w.heap.size, 0, none⟩ = some (.slice A n c) ∧ W.cell? ⟨w.heap.size + 1, 0, none⟩ = some (.slice (some ad) pn pc) ∧ W.cell? (ad.add (at' * 8)) = some (.int .i64 kd) ∧ W.cell? ⟨(ad.add (at' * 8)).block, (ad.add (at' * 8)).off + 1, none⟩ = some (.slice mA mn mc) ∧ W.cell? ⟨(ad.add (at' * 8)).block, (ad.add (at' * 8)).off + 2, none⟩ = some (.int .i64 sr) ∧ W.cell? ⟨(ad.add (at' * 8)).block, (ad.add (at' * 8)).off + 3, none⟩ = some (.int .i64 sd) ∧ W.cell? ⟨(ad.add (at' * 8)).block, (ad.add (at' * 8)).off + 4, none⟩ = some (.int .i64 sx) ∧ W.cell? ⟨(ad.add (at' * 8)).block, (ad.add (at' * 8)).off + 5, none⟩ = some (.int .i64 sk) ∧ W.cell? ⟨(ad.add (at' * 8)).block, (ad.add (at' * 8)).off + 6, none⟩ = some (.int .i64 snx) ∧ W.cell? ⟨(ad.add (at' * 8)).block, (ad.add (at' * 8)).off + 7, none⟩ = some (.int .i64 sel) from
    ⟨(HK.out.1.old hb).cell 0, (HK.out.2.1.old hb).cell 0, HA8.out W (HK.out.2.2.2.trans (hb.mono HK.out.2.2.2.size))⟩)
  go_region_held3 (fun w' => w'.cell? ⟨w.heap.size, 0, none⟩ = some (.slice A n c) ∧ w'.cell? ⟨w.heap.size + 1, 0, none⟩ = some (.slice (some ad) pn pc) ∧ w'.cell? (ad.add (at' * 8)) = some (.int .i64 kd) ∧ w'.cell? ⟨(ad.add (at' * 8)).block, (ad.add (at' * 8)).off + 1, none⟩ = some (.slice mA mn mc) ∧ w'.cell? ⟨(ad.add (at' * 8)).block, (ad.add (at' * 8)).off + 2, none⟩ = some (.int .i64 sr) ∧ w'.cell? ⟨(ad.add (at' * 8)).block, (ad.add (at' * 8)).off + 3, none⟩ = some (.int .i64 sd) ∧ w'.cell? ⟨(ad.add (at' * 8)).block, (ad.add (at' * 8)).off + 4, none⟩ = some (.int .i64 sx) ∧ w'.cell? ⟨(ad.add (at' * 8)).block, (ad.add (at' * 8)).off + 5, none⟩ = some (.int .i64 sk) ∧ w'.cell? ⟨(ad.add (at' * 8)).block, (ad.add (at' * 8)).off + 6, none⟩ = some (.int .i64 snx) ∧ w'.cell? ⟨(ad.add (at' * 8)).block, (ad.add (at' * 8)).off + 7, none⟩ = some (.int .i64 sel))
    (first
      | exact HCC.out _ ((Below.refl w1.heap.size w1).drew)
      | exact HCC.out _ (((Below.refl w1.heap.size w1).drew).alloc (Nat.le_refl _) _)
      | exact HCC.out _ (((Below.refl w1.heap.size w1).alloc (Nat.le_refl _) _).drew))
    (first | fail)
  have hw1s : w.heap.size + 2 < w1.heap.size := HK.out.2.2.1.lt
  have HM2 := Lib.hid (show ClMem w A n c B m d (some ad) pn pc L ln lc w1.heap.size #[.int .i64 kd, .slice mA mn mc, .int .i64 sr, .int .i64 sd, .int .i64 sx, .int .i64 sk, .int .i64 snx, .int .i64 sel] (w1.alloc (.cells #[.int .i64 kd, .slice mA mn mc, .int .i64 sr, .int .i64 sd, .int .i64 sx, .int .i64 sk, .int .i64 snx, .int .i64 sel] 49)).drew from by
    have hbd : Below w1.heap.size w1 (w1.alloc (.cells #[.int .i64 kd, .slice mA mn mc, .int .i64 sr, .int .i64 sd, .int .i64 sx, .int .i64 sk, .int .i64 snx, .int .i64 sel] 49)).drew := ((Below.refl w1.heap.size w1).alloc (Nat.le_refl _) _).drew
    exact ⟨HK.out.2.2.2.trans (hbd.mono HK.out.2.2.2.size), HK.out.1.old hbd, HK.out.2.1.old hbd, HK.out.2.2.1.old hbd, blk_drew (Blk.new w1 49 _)⟩)
  clear HCC HA8
  generalize (w1.alloc (.cells #[.int .i64 kd, .slice mA mn mc, .int .i64 sr, .int .i64 sd, .int .i64 sx, .int .i64 sk, .int .i64 snx, .int .i64 sel] 49)).drew = w2 at *
  generalize w1.heap.size = g9 at *
  clear HK
  have H1w := Lib.hid (H1.out.below HM2.out.below)
  have H2w := Lib.hid (H2.out.below HM2.out.below)
  have HMw := Lib.hid (HM.out.below HM2.out.below)
  have hk : kd = 2 := hkN _ HS.out
  clear hkN
  have x0 := HM2.out.b9.cell 0
  have x1 := HM2.out.b9.cell 1
  have x2 := HM2.out.b9.cell 2
  have x3 := HM2.out.b9.cell 3
  have x4 := HM2.out.b9.cell 4
  have x5 := HM2.out.b9.cell 5
  have x6 := HM2.out.b9.cell 6
  have x7 := HM2.out.b9.cell 7
  have xL : w2.cell? ⟨w.heap.size + 1 + 1, 0, none⟩ = some (.slice L ln lc) := HM2.out.bl.cell 0
  have xS : w2.cell? ⟨w.heap.size, 0, none⟩ = some (.slice A n c) := HM2.out.bs.cell 0
  subst hk
  obtain ⟨nx, rfl⟩ := Int.eq_ofNat_of_zero_le (a := snx) (by have := HNx.out (by decide); omega)
  have HNi := Lib.hid (show at' < nx ∧ nx < pn by have := HNx.out (by decide); have := H1.out.len; omega)
  have hnx1 := HNi.out.1
  have hnx2 := HNi.out.2
  have hcl := closes_2 (n := n) (fu := fu) (l := l) HS.out rfl
  dsimp only at hcl
  rw [hll] at hcl
  cases hb1 : bet sr 0 ((ln : Int) - 1) with
  | false =>
    have Hb1 := Lib.hid hb1
    have Hcl := Lib.hid (show closesF n p (fu + 1) at' l = false by rw [hcl, hb1]; rfl)
    clear hcl hb1
    go_wp2_with (first
      | (go_at_call 26
         refine (between_c sr 0 ((ln : Int) - 1) w2).mono ?_
         rw [Hb1.out]
         rintro e w3 ⟨rfl, rfl⟩))
    go_ret
    exact ⟨ret_bool Hcl.out.symm, HM2.out.below⟩
  | true =>
    have Hb1 := Lib.hid hb1
    have hbb := bet_iff.1 hb1
    obtain ⟨rn, rfl⟩ := Int.eq_ofNat_of_zero_le hbb.1
    have hrn : rn < ln := by omega
    have hrn' : (rn : Int) < ln := by omega
    by_cases hd : sd < 2
    · have d2 : decide (sd < 2) = true := decide_eq_true hd
      have Hcl := Lib.hid (show closesF n p (fu + 1) at' l = false by rw [hcl, hb1, decide_eq_false (by omega)]; rfl)
      clear hcl hb1 hbb
      go_wp2_with (first
        | (go_at_call 26
           refine (between_c rn 0 ((ln : Int) - 1) w2).mono ?_
           rw [Hb1.out]
           rintro e w3 ⟨rfl, rfl⟩))
      go_ret
      exact ⟨ret_bool Hcl.out.symm, HM2.out.below⟩
    · have d2 : decide (sd < 2) = false := decide_eq_false hd
      obtain ⟨adL, rr, A', n', c', rfl, _, hr, hcu, hcv, hR, hI⟩ := H2w.out.at_ hrn
      have hgd : l.getD (rn : Int).toNat ([], 0) = rr := by rw [Int.toNat_natCast, List.getD_eq_getElem?_getD, hr]; rfl
      have HRr := Lib.hid hR
      have HIr := Lib.hid hI
      have HRk := Lib.hid (HL.out rr (List.mem_of_getElem? hr))
      rw [hgd, hb1, decide_eq_true (show 2 ≤ sd by omega)] at hcl
      have hno : (rr.1.all fun a => a.tmod sd == 0) = !(rr.1.any fun x => x.tmod sd != 0) := by
        rw [List.not_any_eq_all_not]
        congr 1
        funext x
        cases hx : (x.tmod sd == 0) <;> simp_all
      rw [hno] at hcl
      cases hany : (rr.1.any fun x => x.tmod sd != 0) with
      | true =>
        have HAny := Lib.hid hany
        have Hcl := Lib.hid (show closesF n p (fu + 1) at' l = false by rw [hcl, hany]; rfl)
        clear hcl hb1 hbb hgd hany hno hr hR hI
        go_wp2_with (first
          | (go_at_call 38
             refine (containsMod_c TT A' n' c' rr.1 g9 sd #[.int .i64 2, .slice mA mn mc, .int .i64 rn, .int .i64 sd, .int .i64 sx, .int .i64 sk, .int .i64 nx, .int .i64 sel] w2 HRr.out HM2.out.b9 rfl (by omega)).mono ?_
             rw [HAny.out]
             rintro e w3 ⟨rfl, rfl⟩)
          | (go_at_call 26
             refine (between_c rn 0 ((ln : Int) - 1) w2).mono ?_
             rw [Hb1.out]
             rintro e w3 ⟨rfl, rfl⟩))
        go_ret
        exact ⟨ret_bool Hcl.out.symm, HM2.out.below⟩
      | false =>
        have HAny := Lib.hid hany
        have Hcl := Lib.hid (show closesF n p (fu + 1) at' l = closesF n p fu nx (l ++ [cutR rr sd]) by rw [hcl, hany]; rfl)
        have hcv' : w2.cell? ⟨(adL.add (rn * 2)).block, (adL.add (rn * 2)).off + 1, none⟩ = some (.int .i64 rr.2) := by
          rw [← add_lit (adL.add (rn * 2)) (j := 1) (by decide), add_of_add]; exact hcv
        have HCC := Lib.hid (fun (W : World) (hb : Below w2.heap.size w2 W) => show W.cell? ⟨g9, 6, none⟩ = some (.int .i64 nx) ∧ W.cell? ⟨w.heap.size + 1 + 1, 0, none⟩ = some (.slice (some adL) ln lc) ∧ W.cell? ⟨g9, 2, none⟩ = some (.int .i64 rn) ∧ W.cell? ⟨g9, 3, none⟩ = some (.int .i64 sd) ∧ W.cell? (adL.add (rn * 2)) = some (.slice A' n' c') ∧ W.cell? ⟨(adL.add (rn * 2)).block, (adL.add (rn * 2)).off + 1, none⟩ = some (.int .i64 rr.2) from
          ⟨(HM2.out.b9.old hb).cell 6, (HM2.out.bl.old hb).cell 0, (HM2.out.b9.old hb).cell 2, (HM2.out.b9.old hb).cell 3, cell_below hb hcu, cell_below hb hcv'⟩)
        clear hcl hb1 hbb hgd hany hno hr hR hI
        go_upto_region 12 with (first
          | (go_at_call 38
             refine (containsMod_c TT A' n' c' rr.1 g9 sd #[.int .i64 2, .slice mA mn mc, .int .i64 rn, .int .i64 sd, .int .i64 sx, .int .i64 sk, .int .i64 nx, .int .i64 sel] w2 HRr.out HM2.out.b9 rfl (by omega)).mono ?_
             rw [HAny.out]
             rintro e w3 ⟨rfl, rfl⟩)
          | (go_at_call 26
             refine (between_c rn 0 ((ln : Int) - 1) w2).mono ?_
             rw [Hb1.out]
             rintro e w3 ⟨rfl, rfl⟩))
        clear x0 x1 x2 x3 x4 x5 x6 x7 xL xS hcu hcv hcv'
        go_region_held3 (fun w' => w'.cell? ⟨g9, 6, none⟩ = some (.int .i64 nx) ∧ w'.cell? ⟨w.heap.size + 1 + 1, 0, none⟩ = some (.slice (some adL) ln lc) ∧ w'.cell? ⟨g9, 2, none⟩ = some (.int .i64 rn) ∧ w'.cell? ⟨g9, 3, none⟩ = some (.int .i64 sd) ∧ w'.cell? (adL.add (rn * 2)) = some (.slice A' n' c') ∧ w'.cell? ⟨(adL.add (rn * 2)).block, (adL.add (rn * 2)).off + 1, none⟩ = some (.int .i64 rr.2))
          (first
            | exact HCC.out _ ((Below.refl w2.heap.size w2).drew)
            | exact HCC.out _ HB4.out
            | exact HCC.out _ HB5.out)
          (first
            | (have _ := HB4
               refine step_call rfl 41 #[.int .i64 nx, .agg #[u, v], .pointer (some ⟨w.heap.size, 0, none⟩), .pointer (some ⟨w.heap.size + 1, 0, none⟩), .pointer (some ⟨w.heap.size + 1 + 1, 0, none⟩)] (by go_simp) ((next_c A n c B m d (some ad) pn pc p fu IH.out w.heap.size (w.heap.size + 1) (w.heap.size + 1 + 1) nx (some adL) ln lc l u v (cutR rr sd) _ HM4.out.bs HM4.out.bp HM4.out.bl (H1w.out.below HB4.out) (H2w.out.below HB4.out) (HR4.out.weak (fun _ _ _ => trivial)) HL.out (cut_ok (by omega) HRk.out) HNi.out.2 (by omega) (by omega)).mono ?_)
               rintro e w5 ⟨rfl, hbw5⟩
               refine ⟨_, rfl, ?_⟩
               have HB5 := Lib.hid (HB4.out.trans (hbw5.mono HB4.out.size))
               clear hbw5)
            | (refine step_call rfl 35 #[.agg #[.slice A' n' c', .int .i64 rr.2], .int .i64 sd] (by go_simp) ((cut2_c TT A' n' c' rr.1 rr.2 sd w2.drew (HRr.out.below ((Below.refl w2.heap.size w2).drew)) (by have := HRk.out.1; have := HRr.out.len; omega) (eachB_mono HRk.out.2.1 (by decide) (by decide)) (by have := HRk.out.2.2; unfold large at this; omega) (by have := HW.out.d; unfold I64 at this; dsimp only at this; omega)).mono ?_)
               rintro e w4 ⟨u, v, rfl, hr4, hb4⟩
               refine ⟨_, rfl, ?_⟩
               have HR4 := Lib.hid hr4
               have HB4 := Lib.hid (((Below.refl w2.heap.size w2).drew).trans hb4)
               have HM4 := Lib.hid (HM2.out.belowed HB4.out)
               clear hr4 hb4))
        all_goals
          go_wp2_with fail
          go_ret
          exact ⟨ret_bool Hcl.out.symm, HM2.out.below.trans (HB5.out.mono HM2.out.below.size)⟩

set_option maxRecDepth 100000 in
set_option maxHeartbeats 4000000 in
/-- 'closes', one step -/
theorem closes_step4 (A : Option Addr) (n c : Nat) (B : Option Addr) (m d : Nat) (P : Option Addr) (pn pc : Nat) (p : List Step) (fu : Nat) (_hn1 : 1 ≤ n) (_hn12 : n ≤ 12) (_hnc : n ≤ c) (_hp1e5 : pn ≤ 100000) (hT : TreeOk p) (ih : CIH A n c B m d P pn pc p fu) (at' : Nat) (L : Option Addr) (ln lc : Nat) (l : List Row) (w : World) (h1 : RP w TT P pn pc p) (h2 : RR w TT L ln lc l) (hl : RowsOk n l) (hln : 1 ≤ ln) (hat : at' < pn) (_hfu : pn - at' ≤ fu + 1) (hb : ln + (pn - at') ≤ 200000) (hkN : ∀ x, p[at']? = some x → x.kind = 4) :
    Calls Try.prog 30 #[.agg #[.slice A n c, .slice B m d], .slice P pn pc, .int .i64 at', .slice L ln lc] w (Gives w (.bool (closesF n p (fu + 1) at' l))) := by
  obtain ⟨ad, s, mA, mn, mc, rfl, hs, hwf, hR1, hmn, hcells⟩ := h1.step_ hat
  obtain ⟨hso, hnx, hel⟩ := hT.ok at' s hs
  obtain ⟨kd, sm, sr, sd, sx, sk, snx, sel⟩ := s
  dsimp only at hs hwf hR1 hmn hcells hso hnx hel
  have hpl := h1.len
  have hll := h2.len
  have hcap := h2.cap
  have hpcap := h1.cap
  have HS := Lib.hid hs
  have HW := Lib.hid hwf
  have HMn := Lib.hid hmn
  have HM := Lib.hid hR1
  have H1 := Lib.hid h1
  have H2 := Lib.hid h2
  have HL := Lib.hid hl
  have HNx := Lib.hid hnx
  have HEl := Lib.hid hel
  have HSo := Lib.hid hso
  have IH := Lib.hid ih
  have HC := Lib.hid hcells
  have hmf := run_makeFunc
  have hati : (at' : Int) < pn := by omega
  have hk0 := ((Blk.new w 25 #[.slice A n c, .slice B m d]).alloc (.cells #[.slice (some ad) pn pc] 29)).alloc (.cells #[.slice L ln lc] 23)
  have hk1 : Blk (((w.alloc (.cells #[.slice A n c, .slice B m d] 25)).alloc (.cells #[.slice (some ad) pn pc] 29)).alloc (.cells #[.slice L ln lc] 23)) (w.heap.size + 1) 29 #[.slice (some ad) pn pc] := by
    have := (Blk.new (w.alloc (.cells #[.slice A n c, .slice B m d] 25)) 29 #[.slice (some ad) pn pc]).alloc (.cells #[.slice L ln lc] 23)
    simpa using this
  have hk2 : Blk (((w.alloc (.cells #[.slice A n c, .slice B m d] 25)).alloc (.cells #[.slice (some ad) pn pc] 29)).alloc (.cells #[.slice L ln lc] 23)) (w.heap.size + 2) 23 #[.slice L ln lc] := by
    have := Blk.new ((w.alloc (.cells #[.slice A n c, .slice B m d] 25)).alloc (.cells #[.slice (some ad) pn pc] 29)) 23 #[.slice L ln lc]
    simpa using this
  have hb0 : Below w.heap.size w (((w.alloc (.cells #[.slice A n c, .slice B m d] 25)).alloc (.cells #[.slice (some ad) pn pc] 29)).alloc (.cells #[.slice L ln lc] 23)) := (((Below.refl w.heap.size w).alloc (Nat.le_refl _) _).alloc (by simp) _).alloc (by simp; omega) _
  have HK := Lib.hid (And.intro hk0 (And.intro hk1 (And.intro hk2 hb0)))
  clear ih h1 h2 hl hs hwf hR1 hmn hcells hso hnx hel hk0 hk1 hk2 hb0 hpl
  go_enter Try.func30, Try.ntmps30
  go_wp2_with fail
  obtain ⟨w1, hw1⟩ : ∃ w1, w1 = ((w.alloc (.cells #[.slice A n c, .slice B m d] 25)).alloc (.cells #[.slice (some ad) pn pc] 29)).alloc (.cells #[.slice L ln lc] 23) := ⟨_, rfl⟩
  rw [← hw1] at HK ⊢
  clear hw1
  have HA8 := Lib.hid (fun (W : World) (hb : Below w.heap.size w W) => show W.cell? (ad.add (at' * 8)) = some (.int .i64 kd) ∧ W.cell? ⟨(ad.add (at' * 8)).block, (ad.add (at' * 8)).off + 1, none⟩ = some (.slice mA mn mc) ∧ W.cell? ⟨(ad.add (at' * 8)).block, (ad.add (at' * 8)).off + 2, none⟩ = some (.int .i64 sr) ∧ W.cell? ⟨(ad.add (at' * 8)).block, (ad.add (at' * 8)).off + 3, none⟩ = some (.int .i64 sd) ∧ W.cell? ⟨(ad.add (at' * 8)).block, (ad.add (at' * 8)).off + 4, none⟩ = some (.int .i64 sx) ∧ W.cell? ⟨(ad.add (at' * 8)).block, (ad.add (at' * 8)).off + 5, none⟩ = some (.int .i64 sk) ∧ W.cell? ⟨(ad.add (at' * 8)).block, (ad.add (at' * 8)).off + 6, none⟩ = some (.int .i64 snx) ∧ W.cell? ⟨(ad.add (at' * 8)).block, (ad.add (at' * 8)).off + 7, none⟩ = some (.int .i64 sel) from
    ⟨cell_below hb (by have := HC.out 0 _ rfl; rwa [add_zero_] at this), cell_below hb (by have := HC.out 1 _ rfl; rwa [add_lit _ (by decide)] at this), cell_below hb (by have := HC.out 2 _ rfl; rwa [add_lit _ (by decide)] at this), cell_below hb (by have := HC.out 3 _ rfl; rwa [add_lit _ (by decide)] at this), cell_below hb (by have := HC.out 4 _ rfl; rwa [add_lit _ (by decide)] at this), cell_below hb (by have := HC.out 5 _ rfl; rwa [add_lit _ (by decide)] at this), cell_below hb (by have := HC.out 6 _ rfl; rwa [add_lit _ (by decide)] at this), cell_below hb (by have := HC.out 7 _ rfl; rwa [add_lit _ (by decide)] at this)⟩)
  have HCC := Lib.hid (fun (W : World) (hb : Below w1.heap.size w1 W) => show W.cell? ⟨w.heap.size, 0, none⟩ = some (.slice A n c) ∧ W.cell? ⟨w.heap.size + 1, 0, none⟩ = some (.slice (some ad) pn pc) ∧ W.cell? (ad.add (at' * 8)) = some (.int .i64 kd) ∧ W.cell? ⟨(ad.add (at' * 8)).block, (ad.add (at' * 8)).off + 1, none⟩ = some (.slice mA mn mc) ∧ W.cell? ⟨(ad.add (at' * 8)).block, (ad.add (at' * 8)).off + 2, none⟩ = some (.int .i64 sr) ∧ W.cell? ⟨(ad.add (at' * 8)).block, (ad.add (at' * 8)).off + 3, none⟩ = some (.int .i64 sd) ∧ W.cell? ⟨(ad.add (at' * 8)).block, (ad.add (at' * 8)).off + 4, none⟩ = some (.int .i64 sx) ∧ W.cell? ⟨(ad.add (at' * 8)).block, (ad.add (at' * 8)).off + 5, none⟩ = some (.int .i64 sk) ∧ W.cell? ⟨(ad.add (at' * 8)).block, (ad.add (at' * 8)).off + 6, none⟩ = some (.int .i64 snx) ∧ W.cell? ⟨(ad.add (at' * 8)).block, (ad.add (at' * 8)).off + 7, none⟩ = some (.int .i64 sel) from
    ⟨(HK.out.1.old hb).cell 0, (HK.out.2.1.old hb).cell 0, HA8.out W (HK.out.2.2.2.trans (hb.mono HK.out.2.2.2.size))⟩)
  go_region_held3 (fun w' => w'.cell? ⟨w.heap.size, 0, none⟩ = some (.slice A n c) ∧ w'.cell? ⟨w.heap.size + 1, 0, none⟩ = some (.slice (some ad) pn pc) ∧ w'.cell? (ad.add (at' * 8)) = some (.int .i64 kd) ∧ w'.cell? ⟨(ad.add (at' * 8)).block, (ad.add (at' * 8)).off + 1, none⟩ = some (.slice mA mn mc) ∧ w'.cell? ⟨(ad.add (at' * 8)).block, (ad.add (at' * 8)).off + 2, none⟩ = some (.int .i64 sr) ∧ w'.cell? ⟨(ad.add (at' * 8)).block, (ad.add (at' * 8)).off + 3, none⟩ = some (.int .i64 sd) ∧ w'.cell? ⟨(ad.add (at' * 8)).block, (ad.add (at' * 8)).off + 4, none⟩ = some (.int .i64 sx) ∧ w'.cell? ⟨(ad.add (at' * 8)).block, (ad.add (at' * 8)).off + 5, none⟩ = some (.int .i64 sk) ∧ w'.cell? ⟨(ad.add (at' * 8)).block, (ad.add (at' * 8)).off + 6, none⟩ = some (.int .i64 snx) ∧ w'.cell? ⟨(ad.add (at' * 8)).block, (ad.add (at' * 8)).off + 7, none⟩ = some (.int .i64 sel))
    (first
      | exact HCC.out _ ((Below.refl w1.heap.size w1).drew)
      | exact HCC.out _ (((Below.refl w1.heap.size w1).drew).alloc (Nat.le_refl _) _)
      | exact HCC.out _ (((Below.refl w1.heap.size w1).alloc (Nat.le_refl _) _).drew))
    (first | fail)
  have hw1s : w.heap.size + 2 < w1.heap.size := HK.out.2.2.1.lt
  have HM2 := Lib.hid (show ClMem w A n c B m d (some ad) pn pc L ln lc w1.heap.size #[.int .i64 kd, .slice mA mn mc, .int .i64 sr, .int .i64 sd, .int .i64 sx, .int .i64 sk, .int .i64 snx, .int .i64 sel] (w1.alloc (.cells #[.int .i64 kd, .slice mA mn mc, .int .i64 sr, .int .i64 sd, .int .i64 sx, .int .i64 sk, .int .i64 snx, .int .i64 sel] 49)).drew from by
    have hbd : Below w1.heap.size w1 (w1.alloc (.cells #[.int .i64 kd, .slice mA mn mc, .int .i64 sr, .int .i64 sd, .int .i64 sx, .int .i64 sk, .int .i64 snx, .int .i64 sel] 49)).drew := ((Below.refl w1.heap.size w1).alloc (Nat.le_refl _) _).drew
    exact ⟨HK.out.2.2.2.trans (hbd.mono HK.out.2.2.2.size), HK.out.1.old hbd, HK.out.2.1.old hbd, HK.out.2.2.1.old hbd, blk_drew (Blk.new w1 49 _)⟩)
  clear HCC HA8
  generalize (w1.alloc (.cells #[.int .i64 kd, .slice mA mn mc, .int .i64 sr, .int .i64 sd, .int .i64 sx, .int .i64 sk, .int .i64 snx, .int .i64 sel] 49)).drew = w2 at *
  generalize w1.heap.size = g9 at *
  clear HK
  have H1w := Lib.hid (H1.out.below HM2.out.below)
  have H2w := Lib.hid (H2.out.below HM2.out.below)
  have HMw := Lib.hid (HM.out.below HM2.out.below)
  have hk : kd = 4 := hkN _ HS.out
  clear hkN
  have x0 := HM2.out.b9.cell 0
  have x1 := HM2.out.b9.cell 1
  have x2 := HM2.out.b9.cell 2
  have x3 := HM2.out.b9.cell 3
  have x4 := HM2.out.b9.cell 4
  have x5 := HM2.out.b9.cell 5
  have x6 := HM2.out.b9.cell 6
  have x7 := HM2.out.b9.cell 7
  have xL : w2.cell? ⟨w.heap.size + 1 + 1, 0, none⟩ = some (.slice L ln lc) := HM2.out.bl.cell 0
  have xS : w2.cell? ⟨w.heap.size, 0, none⟩ = some (.slice A n c) := HM2.out.bs.cell 0
  subst hk
  obtain ⟨lk, rfl⟩ : ∃ lk, ln = lk + 1 := ⟨ln - 1, by omega⟩
  obtain ⟨adL, rr, A', n', c', rfl, _, hr, hcu, hcv, hR, hI⟩ := H2w.out.at_ (k := lk) (by omega)
  have hcl := closes_4 (n := n) (fu := fu) (l := l) (r := rr) HS.out rfl (by rw [hll]; exact hr)
  have HRr := Lib.hid hR
  have HCu := Lib.hid hcu
  have HCv := Lib.hid (show w2.cell? ((adL.add (lk * 2)).add 1) = some (.int .i64 rr.2) by rw [add_of_add]; exact hcv)
  have hlk1 : (lk : Int) < lk + 1 := by omega
  have hbF : Below w.heap.size w (w2.alloc (.cells #[.slice A' n' c', .int .i64 rr.2] 37)) := HM2.out.below.alloc HM2.out.below.size _
  have HBF := Lib.hid hbF
  have hno : (rr.1.all fun a => decide (a ≤ 0)) = !(rr.1.any fun x => decide (0 < x)) := by
    rw [List.not_any_eq_all_not]
    congr 1
    funext x
    by_cases hx : x ≤ 0
    · rw [decide_eq_true hx, decide_eq_false (by omega)]; rfl
    · rw [decide_eq_false hx, decide_eq_true (by omega)]; rfl
  rw [hno] at hcl
  by_cases hC : rr.2 < 0
  · have d2 : decide (rr.2 < 0) = true := decide_eq_true hC
    rw [d2] at hcl
    cases hany : (rr.1.any fun x => decide (0 < x)) with
    | true =>
      have HAny := Lib.hid hany
      have Hcl := Lib.hid (show closesF n p (fu + 1) at' l = false by rw [hcl, hany]; rfl)
      clear hcl hany hno hr hR hI hcu hcv hbF
      go_wp2_with (first
        | (go_at_call 38
           refine (containsPos_c TT A' n' c' rr.1 _ (HRr.out.below ((Below.refl w2.heap.size w2).alloc (Nat.le_refl _) _))).mono ?_
           rw [HAny.out]
           rintro e w4 ⟨rfl, rfl⟩)
        | (refine wpList_load_two rfl 37 (.tmp 132) rfl (adL.add (lk * 2)) rfl _ _ HCu.out HCv.out Try.underlying37 size37 ?_))
      go_ret
      exact ⟨ret_bool Hcl.out.symm, HBF.out⟩
    | false =>
      have HAny := Lib.hid hany
      have Hcl := Lib.hid (show closesF n p (fu + 1) at' l = true by rw [hcl, hany]; rfl)
      clear hcl hany hno hr hR hI hcu hcv hbF
      go_wp2_with (first
        | (go_at_call 38
           refine (containsPos_c TT A' n' c' rr.1 _ (HRr.out.below ((Below.refl w2.heap.size w2).alloc (Nat.le_refl _) _))).mono ?_
           rw [HAny.out]
           rintro e w4 ⟨rfl, rfl⟩)
        | (refine wpList_load_two rfl 37 (.tmp 132) rfl (adL.add (lk * 2)) rfl _ _ HCu.out HCv.out Try.underlying37 size37 ?_))
      go_ret
      exact ⟨ret_bool Hcl.out.symm, HBF.out⟩
  · have d2 : decide (rr.2 < 0) = false := decide_eq_false hC
    have Hcl := Lib.hid (show closesF n p (fu + 1) at' l = false by rw [hcl, d2]; rfl)
    clear hcl hno hr hR hI hcu hcv hbF
    go_wp2_with (first
        | (go_at_call 38
           refine (containsPos_c TT A' n' c' rr.1 _ (HRr.out.below ((Below.refl w2.heap.size w2).alloc (Nat.le_refl _) _))).mono ?_
           rw [HAny.out]
           rintro e w4 ⟨rfl, rfl⟩)
        | (refine wpList_load_two rfl 37 (.tmp 132) rfl (adL.add (lk * 2)) rfl _ _ HCu.out HCv.out Try.underlying37 size37 ?_))
    go_ret
    exact ⟨ret_bool Hcl.out.symm, HBF.out⟩

end Go.Proofs.Ytjienelkjpodkaa
