/- Walks: closes, a split. -/
import Derived.Test.YtjienelkjpodkaaW23
namespace Go.Proofs.Ytjienelkjpodkaa
open Go.RowKit

theorem step_callG {P : Program} {ops : Array Oper} {o : Oper} {a : Act} {w : World} {K : Act → World → Prop} {Q : Exit → Act → World → Prop} {E : Prop} (hw : Region.wanted o (yielded ops a.tmps) = true) (f : FuncId) (args : Array Value) (e : (execOp a.eval o).run P w = .ok (.enter f args) w)
    (h : Calls P f args w fun e w' => ∃ v, e = .returned v ∧ K (a.put o.dst v) w') : if Region.wanted o (yielded ops a.tmps) = true then Oper.wp P o a w K Q else E := by
  rw [if_pos hw]
  unfold Oper.wp
  rw [e, Oper.upon_enter]
  refine h.mono fun e w' ⟨v, he, hk⟩ => ?_
  subst he
  exact hk

set_option maxRecDepth 100000 in
set_option maxHeartbeats 4000000 in
/-- 'closes', one step -/
theorem closes_step3 (A : Option Addr) (n c : Nat) (B : Option Addr) (m d : Nat) (P : Option Addr) (pn pc : Nat) (p : List Step) (fu : Nat) (hn1 : 1 ≤ n) (hn12 : n ≤ 12) (_hnc : n ≤ c) (hp1e5 : pn ≤ 100000) (hT : TreeOk p) (ih : CIH A n c B m d P pn pc p fu) (at' : Nat) (L : Option Addr) (ln lc : Nat) (l : List Row) (w : World) (h1 : RP w TT P pn pc p) (h2 : RR w TT L ln lc l) (hl : RowsOk n l) (_hln : 1 ≤ ln) (hat : at' < pn) (hfu : pn - at' ≤ fu + 1) (hb : ln + (pn - at') ≤ 200000) (hkN : ∀ x, p[at']? = some x → x.kind = 3) :
    Calls Try.prog 30 #[.agg #[.slice A n c, .slice B m d], .slice P pn pc, .int .i64 at', .slice L ln lc] w (Gives w (.bool (closesF n p (fu + 1) at' l))) := by
  obtain ⟨ad, s, mA, mn, mc, rfl, hs, hwf, hR1, hmn, hcells⟩ := h1.step_ hat
  obtain ⟨hso, hnx, hel⟩ := hT.ok at' s hs
  obtain ⟨kd, sm, sr, sd, sx, sk, snx, sel⟩ := s
  dsimp only at hs hwf hR1 hmn hcells hso hnx hel
  have hpl := h1.len
  have hll := h2.len
  have hcap := h2.cap
  have hpcap := h1.cap
  have HS := Lib.hid hs
  have HW := Lib.hid hwf
  have HMn := Lib.hid hmn
  have HM := Lib.hid hR1
  have H1 := Lib.hid h1
  have H2 := Lib.hid h2
  have HL := Lib.hid hl
  have HNx := Lib.hid hnx
  have HEl := Lib.hid hel
  have HSo := Lib.hid hso
  have IH := Lib.hid ih
  have HC := Lib.hid hcells
  have hmf := run_makeFunc
  have hati : (at' : Int) < pn := by omega
  have hk0 := ((Blk.new w 25 #[.slice A n c, .slice B m d]).alloc (.cells #[.slice (some ad) pn pc] 29)).alloc (.cells #[.slice L ln lc] 23)
  have hk1 : Blk (((w.alloc (.cells #[.slice A n c, .slice B m d] 25)).alloc (.cells #[.slice (some ad) pn pc] 29)).alloc (.cells #[.slice L ln lc] 23)) (w.heap.size + 1) 29 #[.slice (some ad) pn pc] := by
    have := (Blk.new (w.alloc (.cells #[.slice A n c, .slice B m d] 25)) 29 #[.slice (some ad) pn pc]).alloc (.cells #[.slice L ln lc] 23)
    simpa using this
  have hk2 : Blk (((w.alloc (.cells #[.slice A n c, .slice B m d] 25)).alloc (.cells #[.slice (some ad) pn pc] 29)).alloc (.cells #[.slice L ln lc] 23)) (w.heap.size + 2) 23 #[.slice L ln lc] := by
    have := Blk.new ((w.alloc (.cells #[.slice A n c, .slice B m d] 25)).alloc (.cells #[.slice (some ad) pn pc] 29)) 23 #[.slice L ln lc]
    simpa using this
  have hb0 : Below w.heap.size w (((w.alloc (.cells #[.slice A n c, .slice B m d] 25)).alloc (.cells #[.slice (some ad) pn pc] 29)).alloc (.cells #[.slice L ln lc] 23)) := (((Below.refl w.heap.size w).alloc (Nat.le_refl _) _).alloc (by simp) _).alloc (by simp; omega) _
  have HK := Lib.hid (And.intro hk0 (And.intro hk1 (And.intro hk2 hb0)))
  clear ih h1 h2 hl hs hwf hR1 hmn hcells hso hnx hel hk0 hk1 hk2 hb0 hpl
  go_enter Try.func30, Try.ntmps30
  go_wp2_with fail
  obtain ⟨w1, hw1⟩ : ∃ w1, w1 = ((w.alloc (.cells #[.slice A n c, .slice B m d] 25)).alloc (.cells #[.slice (some ad) pn pc] 29)).alloc (.cells #[.slice L ln lc] 23) := ⟨_, rfl⟩
  rw [← hw1] at HK ⊢
  clear hw1
  have HA8 := Lib.hid (fun (W : World) (hb : Below w.heap.size w W) => show W.cell? (ad.add (at' * 8)) = some (.int .i64 kd) ∧ W.cell? ⟨(ad.add (at' * 8)).block, (ad.add (at' * 8)).off + 1, none⟩ = some (.slice mA mn mc) ∧ W.cell? ⟨(ad.add (at' * 8)).block, (ad.add (at' * 8)).off + 2, none⟩ = some (.int .i64 sr) ∧ W.cell? ⟨(ad.add (at' * 8)).block, (ad.add (at' * 8)).off + 3, none⟩ = some (.int .i64 sd) ∧ W.cell? ⟨(ad.add (at' * 8)).block, (ad.add (at' * 8)).off + 4, none⟩ = some (.int .i64 sx) ∧ W.cell? ⟨(ad.add (at' * 8)).block, (ad.add (at' * 8)).off + 5, none⟩ = some (.int .i64 sk) ∧ W.cell? ⟨(ad.add (at' * 8)).block, (ad.add (at' * 8)).off + 6, none⟩ = some (.int .i64 snx) ∧ W.cell? ⟨(ad.add (at' * 8)).block, (ad.add (at' * 8)).off + 7, none⟩ = some (.int .i64 sel) from
    ⟨cell_below hb (by have := HC.out 0 _ rfl; rwa [add_zero_] at this), cell_below hb (by have := HC.out 1 _ rfl; rwa [add_lit _ (by decide)] at this), cell_below hb (by have := HC.out 2 _ rfl; rwa [add_lit _ (by decide)] at this), cell_below hb (by have := HC.out 3 _ rfl; rwa [add_lit _ (by decide)] at this), cell_below hb (by have := HC.out 4 _ rfl; rwa [add_lit _ (by decide)] at this), cell_below hb (by have := HC.out 5 _ rfl; rwa [add_lit _ (by decide)] at this), cell_below hb (by have := HC.out 6 _ rfl; rwa [add_lit _ (by decide)] at this), cell_below hb (by have := HC.out 7 _ rfl; rwa [add_lit _ (by decide)] at this)⟩)
  have HCC := Lib.hid (fun (W : World) (hb : Below w1.heap.size w1 W) => show W.cell? ⟨w.heap.size, 0, none⟩ = some (.slice A n c) ∧ W.cell? ⟨w.heap.size + 1, 0, none⟩ = some (.slice (some ad) pn pc) ∧ W.cell? (ad.add (at' * 8)) = some (.int .i64 kd) ∧ W.cell? ⟨(ad.add (at' * 8)).block, (ad.add (at' * 8)).off + 1, none⟩ = some (.slice mA mn mc) ∧ W.cell? ⟨(ad.add (at' * 8)).block, (ad.add (at' * 8)).off + 2, none⟩ = some (.int .i64 sr) ∧ W.cell? ⟨(ad.add (at' * 8)).block, (ad.add (at' * 8)).off + 3, none⟩ = some (.int .i64 sd) ∧ W.cell? ⟨(ad.add (at' * 8)).block, (ad.add (at' * 8)).off + 4, none⟩ = some (.int .i64 sx) ∧ W.cell? ⟨(ad.add (at' * 8)).block, (ad.add (at' * 8)).off + 5, none⟩ = some (.int .i64 sk) ∧ W.cell? ⟨(ad.add (at' * 8)).block, (ad.add (at' * 8)).off + 6, none⟩ = some (.int .i64 snx) ∧ W.cell? ⟨(ad.add (at' * 8)).block, (ad.add (at' * 8)).off + 7, none⟩ = some (.int .i64 sel) from
    ⟨(HK.out.1.old hb).cell 0, (HK.out.2.1.old hb).cell 0, HA8.out W (HK.out.2.2.2.trans (hb.mono HK.out.2.2.2.size))⟩)
  go_region_held3 (fun w' => w'.cell? ⟨w.heap.size, 0, none⟩ = some (.slice A n c) ∧ w'.cell? ⟨w.heap.size + 1, 0, none⟩ = some (.slice (some ad) pn pc) ∧ w'.cell? (ad.add (at' * 8)) = some (.int .i64 kd) ∧ w'.cell? ⟨(ad.add (at' * 8)).block, (ad.add (at' * 8)).off + 1, none⟩ = some (.slice mA mn mc) ∧ w'.cell? ⟨(ad.add (at' * 8)).block, (ad.add (at' * 8)).off + 2, none⟩ = some (.int .i64 sr) ∧ w'.cell? ⟨(ad.add (at' * 8)).block, (ad.add (at' * 8)).off + 3, none⟩ = some (.int .i64 sd) ∧ w'.cell? ⟨(ad.add (at' * 8)).block, (ad.add (at' * 8)).off + 4, none⟩ = some (.int .i64 sx) ∧ w'.cell? ⟨(ad.add (at' * 8)).block, (ad.add (at' * 8)).off + 5, none⟩ = some (.int .i64 sk) ∧ w'.cell? ⟨(ad.add (at' * 8)).block, (ad.add (at' * 8)).off + 6, none⟩ = some (.int .i64 snx) ∧ w'.cell? ⟨(ad.add (at' * 8)).block, (ad.add (at' * 8)).off + 7, none⟩ = some (.int .i64 sel))
    (first
      | exact HCC.out _ ((Below.refl w1.heap.size w1).drew)
      | exact HCC.out _ (((Below.refl w1.heap.size w1).drew).alloc (Nat.le_refl _) _)
      | exact HCC.out _ (((Below.refl w1.heap.size w1).alloc (Nat.le_refl _) _).drew))
    (first | fail)
  have hw1s : w.heap.size + 2 < w1.heap.size := HK.out.2.2.1.lt
  have HM2 := Lib.hid (show ClMem w A n c B m d (some ad) pn pc L ln lc w1.heap.size #[.int .i64 kd, .slice mA mn mc, .int .i64 sr, .int .i64 sd, .int .i64 sx, .int .i64 sk, .int .i64 snx, .int .i64 sel] (w1.alloc (.cells #[.int .i64 kd, .slice mA mn mc, .int .i64 sr, .int .i64 sd, .int .i64 sx, .int .i64 sk, .int .i64 snx, .int .i64 sel] 49)).drew from by
    have hbd : Below w1.heap.size w1 (w1.alloc (.cells #[.int .i64 kd, .slice mA mn mc, .int .i64 sr, .int .i64 sd, .int .i64 sx, .int .i64 sk, .int .i64 snx, .int .i64 sel] 49)).drew := ((Below.refl w1.heap.size w1).alloc (Nat.le_refl _) _).drew
    exact ⟨HK.out.2.2.2.trans (hbd.mono HK.out.2.2.2.size), HK.out.1.old hbd, HK.out.2.1.old hbd, HK.out.2.2.1.old hbd, blk_drew (Blk.new w1 49 _)⟩)
  clear HCC HA8
  generalize (w1.alloc (.cells #[.int .i64 kd, .slice mA mn mc, .int .i64 sr, .int .i64 sd, .int .i64 sx, .int .i64 sk, .int .i64 snx, .int .i64 sel] 49)).drew = w2 at *
  generalize w1.heap.size = g9 at *
  clear HK
  have H1w := Lib.hid (H1.out.below HM2.out.below)
  have H2w := Lib.hid (H2.out.below HM2.out.below)
  have HMw := Lib.hid (HM.out.below HM2.out.below)
  have hk : kd = 3 := hkN _ HS.out
  clear hkN
  have x0 := HM2.out.b9.cell 0
  have x1 := HM2.out.b9.cell 1
  have x2 := HM2.out.b9.cell 2
  have x3 := HM2.out.b9.cell 3
  have x4 := HM2.out.b9.cell 4
  have x5 := HM2.out.b9.cell 5
  have x6 := HM2.out.b9.cell 6
  have x7 := HM2.out.b9.cell 7
  have xL : w2.cell? ⟨w.heap.size + 1 + 1, 0, none⟩ = some (.slice L ln lc) := HM2.out.bl.cell 0
  have xS : w2.cell? ⟨w.heap.size, 0, none⟩ = some (.slice A n c) := HM2.out.bs.cell 0
  subst hk
  obtain ⟨nx, rfl⟩ := Int.eq_ofNat_of_zero_le (a := snx) (by have := HNx.out (by decide); omega)
  have HNi := Lib.hid (show at' < nx ∧ nx < pn by have := HNx.out (by decide); have := H1.out.len; omega)
  have hnx1 := HNi.out.1
  have hnx2 := HNi.out.2
  obtain ⟨el, rfl⟩ := Int.eq_ofNat_of_zero_le (a := sel) (by have := HEl.out rfl; omega)
  have HEi := Lib.hid (show at' < el ∧ el < pn by have := HEl.out rfl; have := H1.out.len; omega)
  have hel1 := HEi.out.1
  have hel2 := HEi.out.2
  have hcl := closes_3 (n := n) (fu := fu) (l := l) HS.out rfl
  dsimp only at hcl
  cases hb1 : bet sx 0 ((n : Int) - 1) with
  | false =>
    have Hb1 := Lib.hid hb1
    have Hcl := Lib.hid (show closesF n p (fu + 1) at' l = false by rw [hcl, hb1]; rfl)
    clear hcl hb1
    go_wp2_with (first
      | (go_at_call 26
         refine (between_c sx 0 ((n : Int) - 1) w2).mono ?_
         rw [Hb1.out]
         rintro e w3 ⟨rfl, rfl⟩))
    go_ret
    exact ⟨ret_bool Hcl.out.symm, HM2.out.below⟩
  | true =>
    have Hb1 := Lib.hid hb1
    have hbb := bet_iff.1 hb1
    obtain ⟨xn, rfl⟩ := Int.eq_ofNat_of_zero_le hbb.1
    have hxn : xn < n := by omega
    cases hb2 : bet sk (-1048576) 1048576 with
    | false =>
      have Hb2 := Lib.hid hb2
      have Hcl := Lib.hid (show closesF n p (fu + 1) at' l = false by rw [hcl, hb1, show bet sk (-side) side = false from hb2]; rfl)
      clear hcl hb1 hb2
      go_wp2_with (first
        | (have _ := HDone
           go_at_call 26
           refine (between_c sk (-1048576) 1048576 w2).mono ?_
           rw [Hb2.out]
           rintro e w3 ⟨rfl, rfl⟩)
        | (go_at_call 26
           refine (between_c xn 0 ((n : Int) - 1) w2).mono ?_
           rw [Hb1.out]
           rintro e w3 ⟨rfl, rfl⟩
           have HDone := Lib.hid True.intro))
      go_ret
      exact ⟨ret_bool Hcl.out.symm, HM2.out.below⟩
    | true =>
      have Hb2 := Lib.hid hb2
      have hkb := bet_iff.1 hb2
      rw [hb1, show bet sk (-side) side = true from hb2, Int.toNat_natCast, Int.toNat_natCast, Int.toNat_natCast] at hcl
      have HCC := Lib.hid (fun (W : World) (hb : Below w2.heap.size w2 W) => show W.cell? ⟨g9, 6, none⟩ = some (.int .i64 nx) ∧ W.cell? ⟨g9, 7, none⟩ = some (.int .i64 el) ∧ W.cell? ⟨g9, 4, none⟩ = some (.int .i64 xn) ∧ W.cell? ⟨g9, 5, none⟩ = some (.int .i64 sk) from
        ⟨(HM2.out.b9.old hb).cell 6, (HM2.out.b9.old hb).cell 7, (HM2.out.b9.old hb).cell 4, (HM2.out.b9.old hb).cell 5⟩)
      cases hF1 : closesF n p fu nx (l ++ [unitR n xn (-1) sk]) with
      | false =>
        have HF1 := Lib.hid hF1
        have Hcl := Lib.hid (show closesF n p (fu + 1) at' l = false by rw [hcl, hF1]; rfl)
        clear hcl hb1 hb2 hF1 hbb
        go_upto_region 16 with (first
            | (have _ := HDone
               go_at_call 26
               refine (between_c sk (-1048576) 1048576 w2).mono ?_
               rw [Hb2.out]
               rintro e w3 ⟨rfl, rfl⟩)
            | (go_at_call 26
               refine (between_c xn 0 ((n : Int) - 1) w2).mono ?_
               rw [Hb1.out]
               rintro e w3 ⟨rfl, rfl⟩
               have HDone := Lib.hid True.intro))
        clear x0 x1 x2 x3 x4 x5 x6 x7 xL xS
        refine wp_region_held_drew (S := fun w' => w'.cell? ⟨g9, 6, none⟩ = some (.int .i64 nx) ∧ w'.cell? ⟨g9, 7, none⟩ = some (.int .i64 el) ∧ w'.cell? ⟨g9, 4, none⟩ = some (.int .i64 xn) ∧ w'.cell? ⟨g9, 5, none⟩ = some (.int .i64 sk)) (by kernel_rfl) (HCC.out _ ((Below.refl w2.heap.size w2).drew)) ?_
        intro hS
        change wpAnyH _ _ _ _ _ 25 #[false, false, false, false, false, false, false, false, false, false, false, false, false, false, false, false, false, false, false, false, false, false, false, false, false] _ _
        refine wpAnyH_take (i := 0) (oi := { dst := some 104, op := Op.move (Operand.tmp 11), type := 77, pos := "rows.go:284", after := #[], guard := none }) (v := .func (.func 41) #[] #[.pointer (some ⟨w.heap.size, 0, none⟩), .pointer (some ⟨w.heap.size + 1, 0, none⟩), .pointer (some ⟨w.heap.size + 1 + 1, 0, none⟩)]) rfl (by kernel_rfl) (by kernel_rfl) (by kernel_rfl) (fun _ _ _ h => h) (Or.inl ⟨by rfl, fun W hSW => ?_⟩) (by assumption) ?_
        · dsimp only at hSW
          go_simp
        simp only [Act.put, List.setIfInBounds_toArray, List.set_cons_zero, List.set_cons_succ]
        refine wpAnyH_take (i := 1) (oi := { dst := some 105, op := Op.fieldAddr 49 (Operand.tmp 9) 6, type := 0, pos := "rows.go:284", after := #[], guard := none }) (v := .pointer (some ⟨g9, 6, none⟩)) rfl (by kernel_rfl) (by kernel_rfl) (by kernel_rfl) (fun _ _ _ h => h) (Or.inl ⟨by rfl, fun W hSW => ?_⟩) (by assumption) ?_
        · dsimp only at hSW
          go_simp
        simp only [Act.put, List.setIfInBounds_toArray, List.set_cons_zero, List.set_cons_succ]
        refine wpAnyH_take (i := 2) (oi := { dst := some 106, op := Op.load 3 (Operand.tmp 105), type := 3, pos := "rows.go:284", after := #[{ on := 1, ground := Ground.data }], guard := none }) (v := .int .i64 nx) rfl (by kernel_rfl) (by kernel_rfl) (by kernel_rfl) (fun _ _ _ h => h) (Or.inl ⟨by rfl, fun W hSW => ?_⟩) (by assumption) ?_
        · dsimp only at hSW
          go_simp
        simp only [Act.put, List.setIfInBounds_toArray, List.set_cons_zero, List.set_cons_succ]
        refine wpAnyH_take (i := 3) (oi := { dst := some 107, op := Op.move (Operand.tmp 10), type := 3, pos := "rows.go:284", after := #[], guard := none }) (v := .int .i64 n) rfl (by kernel_rfl) (by kernel_rfl) (by kernel_rfl) (fun _ _ _ h => h) (Or.inl ⟨by rfl, fun W hSW => ?_⟩) (by assumption) ?_
        · dsimp only at hSW
          go_simp
        simp only [Act.put, List.setIfInBounds_toArray, List.set_cons_zero, List.set_cons_succ]
        refine wpAnyH_take (i := 4) (oi := { dst := some 108, op := Op.fieldAddr 49 (Operand.tmp 9) 4, type := 0, pos := "rows.go:284", after := #[], guard := none }) (v := .pointer (some ⟨g9, 4, none⟩)) rfl (by kernel_rfl) (by kernel_rfl) (by kernel_rfl) (fun _ _ _ h => h) (Or.inl ⟨by rfl, fun W hSW => ?_⟩) (by assumption) ?_
        · dsimp only at hSW
          go_simp
        simp only [Act.put, List.setIfInBounds_toArray, List.set_cons_zero, List.set_cons_succ]
        refine wpAnyH_take (i := 5) (oi := { dst := some 109, op := Op.load 3 (Operand.tmp 108), type := 3, pos := "rows.go:284", after := #[{ on := 4, ground := Ground.data }], guard := none }) (v := .int .i64 xn) rfl (by kernel_rfl) (by kernel_rfl) (by kernel_rfl) (fun _ _ _ h => h) (Or.inl ⟨by rfl, fun W hSW => ?_⟩) (by assumption) ?_
        · dsimp only at hSW
          go_simp
        simp only [Act.put, List.setIfInBounds_toArray, List.set_cons_zero, List.set_cons_succ]
        refine wpAnyH_take (i := 6) (oi := { dst := some 110, op := Op.fieldAddr 49 (Operand.tmp 9) 5, type := 0, pos := "rows.go:284", after := #[], guard := none }) (v := .pointer (some ⟨g9, 5, none⟩)) rfl (by kernel_rfl) (by kernel_rfl) (by kernel_rfl) (fun _ _ _ h => h) (Or.inl ⟨by rfl, fun W hSW => ?_⟩) (by assumption) ?_
        · dsimp only at hSW
          go_simp
        simp only [Act.put, List.setIfInBounds_toArray, List.set_cons_zero, List.set_cons_succ]
        refine wpAnyH_take (i := 7) (oi := { dst := some 111, op := Op.load 3 (Operand.tmp 110), type := 3, pos := "rows.go:284", after := #[{ on := 6, ground := Ground.data }], guard := none }) (v := .int .i64 sk) rfl (by kernel_rfl) (by kernel_rfl) (by kernel_rfl) (fun _ _ _ h => h) (Or.inl ⟨by rfl, fun W hSW => ?_⟩) (by assumption) ?_
        · dsimp only at hSW
          go_simp
        simp only [Act.put, List.setIfInBounds_toArray, List.set_cons_zero, List.set_cons_succ]
        refine wpAnyH_ready (rs := [8]) (by kernel_rfl) (by simp) ?_
        refine AllReadyH.cons (o := { dst := some 112, op := Op.call { callee := Callee.value (Operand.func 29), args := #[Operand.tmp 107, Operand.tmp 109, Operand.const (Value.int IntKind.i64 (-1)), Operand.tmp 111], argTypes := #[3, 3, 3, 3] }, type := 37, pos := "rows.go:284", after := #[{ on := 3, ground := Ground.data }, { on := 5, ground := Ground.data }, { on := 7, ground := Ground.data }], guard := none }) rfl (fun K hK => ?_) AllReadyH.nil
        refine step_call rfl 29 #[.int .i64 n, .int .i64 xn, .int .i64 (-1), .int .i64 (sk)] (by go_simp) ((unit_c n xn (-1) (sk) w2.drew hn12 hxn (i64_small (by omega) (by omega)) (i64_small (by omega) (by omega))).mono ?_)
        rintro e w4 ⟨uw4, vw4, rfl, hrw4, hbw4⟩
        refine ⟨_, rfl, ?_⟩
        have HR4 := Lib.hid hrw4
        have HB4 := Lib.hid (((Below.refl w2.heap.size w2).drew).trans (hbw4))
        have HM4 := Lib.hid (HM2.out.belowed HB4.out)
        clear hrw4 hbw4
        refine hK.out _ _ (HCC.out _ HB4.out) (fun hS => ?_)
        simp only [Act.put, List.setIfInBounds_toArray, List.set_cons_zero, List.set_cons_succ]
        refine wpAnyH_ready (rs := [9]) (by kernel_rfl) (by simp) ?_
        refine AllReadyH.cons (o := { dst := some 113, op := Op.call { callee := Callee.value (Operand.tmp 104), args := #[Operand.tmp 106, Operand.tmp 112], argTypes := #[3, 37] }, type := 4, pos := "rows.go:284", after := #[{ on := 0, ground := Ground.data }, { on := 2, ground := Ground.data }, { on := 8, ground := Ground.data }, { on := 8, ground := Ground.chain }], guard := none }) rfl (fun K hK => ?_) AllReadyH.nil
        have _ := HB4
        refine step_call rfl 41 #[.int .i64 nx, .agg #[uw4, vw4], .pointer (some ⟨w.heap.size, 0, none⟩), .pointer (some ⟨w.heap.size + 1, 0, none⟩), .pointer (some ⟨w.heap.size + 1 + 1, 0, none⟩)] (by go_simp) ((next_c A n c B m d (some ad) pn pc p fu IH.out w.heap.size (w.heap.size + 1) (w.heap.size + 1 + 1) nx L ln lc l uw4 vw4 (unitR n xn (-1) sk) _ HM4.out.bs HM4.out.bp HM4.out.bl (H1w.out.below HB4.out) (H2w.out.below HB4.out) (HR4.out.weak (fun _ _ _ => trivial)) HL.out (unit_ok (by omega) (by omega)) HNi.out.2 (by omega) (by omega)).mono ?_)
        rw [HF1.out]
        rintro e w5 ⟨rfl, hbw5⟩
        refine ⟨_, rfl, ?_⟩
        have HB5 := Lib.hid (HB4.out.trans (hbw5.mono HB4.out.size))
        clear hbw5
        refine hK.out _ _ (HCC.out _ HB5.out) (fun hS => ?_)
        simp only [Act.put, List.setIfInBounds_toArray, List.set_cons_zero, List.set_cons_succ]
        refine wpAnyH_take (i := 10) (oi := { dst := some 114, op := Op.move (Operand.tmp 113), type := 4, pos := "rows.go:284", after := #[{ on := 9, ground := Ground.data }, { on := 9, ground := Ground.chain }], guard := none }) (v := .bool false) rfl (by kernel_rfl) (by kernel_rfl) (by kernel_rfl) (fun _ _ _ h => h) (Or.inl ⟨by rfl, fun W hSW => ?_⟩) (by assumption) ?_
        · dsimp only at hSW
          go_simp
        simp only [Act.put, List.setIfInBounds_toArray, List.set_cons_zero, List.set_cons_succ]
        refine wpAnyH_take (i := 11) (oi := { dst := some 115, op := Op.move (Operand.tmp 11), type := 77, pos := "rows.go:284", after := #[{ on := 10, ground := Ground.guard }], guard := some (10, true) }) (v := undef) rfl (by kernel_rfl) (by kernel_rfl) (by kernel_rfl) (fun _ _ _ h => h) (Or.inr ⟨by rfl, rfl⟩) (by assumption) ?_
        simp only [Act.put, List.setIfInBounds_toArray, List.set_cons_zero, List.set_cons_succ]
        refine wpAnyH_take (i := 12) (oi := { dst := some 116, op := Op.fieldAddr 49 (Operand.tmp 9) 7, type := 0, pos := "rows.go:284", after := #[{ on := 10, ground := Ground.guard }], guard := some (10, true) }) (v := undef) rfl (by kernel_rfl) (by kernel_rfl) (by kernel_rfl) (fun _ _ _ h => h) (Or.inr ⟨by rfl, rfl⟩) (by assumption) ?_
        simp only [Act.put, List.setIfInBounds_toArray, List.set_cons_zero, List.set_cons_succ]
        refine wpAnyH_take (i := 13) (oi := { dst := some 117, op := Op.load 3 (Operand.tmp 116), type := 3, pos := "rows.go:284", after := #[{ on := 12, ground := Ground.data }, { on := 10, ground := Ground.guard }], guard := some (10, true) }) (v := undef) rfl (by kernel_rfl) (by kernel_rfl) (by kernel_rfl) (fun _ _ _ h => h) (Or.inr ⟨by rfl, rfl⟩) (by assumption) ?_
        simp only [Act.put, List.setIfInBounds_toArray, List.set_cons_zero, List.set_cons_succ]
        refine wpAnyH_take (i := 14) (oi := { dst := some 118, op := Op.move (Operand.tmp 10), type := 3, pos := "rows.go:284", after := #[{ on := 10, ground := Ground.guard }], guard := some (10, true) }) (v := undef) rfl (by kernel_rfl) (by kernel_rfl) (by kernel_rfl) (fun _ _ _ h => h) (Or.inr ⟨by rfl, rfl⟩) (by assumption) ?_
        simp only [Act.put, List.setIfInBounds_toArray, List.set_cons_zero, List.set_cons_succ]
        refine wpAnyH_take (i := 15) (oi := { dst := some 119, op := Op.fieldAddr 49 (Operand.tmp 9) 4, type := 0, pos := "rows.go:284", after := #[{ on := 10, ground := Ground.guard }], guard := some (10, true) }) (v := undef) rfl (by kernel_rfl) (by kernel_rfl) (by kernel_rfl) (fun _ _ _ h => h) (Or.inr ⟨by rfl, rfl⟩) (by assumption) ?_
        simp only [Act.put, List.setIfInBounds_toArray, List.set_cons_zero, List.set_cons_succ]
        refine wpAnyH_take (i := 16) (oi := { dst := some 120, op := Op.load 3 (Operand.tmp 119), type := 3, pos := "rows.go:284", after := #[{ on := 15, ground := Ground.data }, { on := 10, ground := Ground.guard }], guard := some (10, true) }) (v := undef) rfl (by kernel_rfl) (by kernel_rfl) (by kernel_rfl) (fun _ _ _ h => h) (Or.inr ⟨by rfl, rfl⟩) (by assumption) ?_
        simp only [Act.put, List.setIfInBounds_toArray, List.set_cons_zero, List.set_cons_succ]
        refine wpAnyH_take (i := 17) (oi := { dst := some 121, op := Op.fieldAddr 49 (Operand.tmp 9) 5, type := 0, pos := "rows.go:284", after := #[{ on := 10, ground := Ground.guard }], guard := some (10, true) }) (v := undef) rfl (by kernel_rfl) (by kernel_rfl) (by kernel_rfl) (fun _ _ _ h => h) (Or.inr ⟨by rfl, rfl⟩) (by assumption) ?_
        simp only [Act.put, List.setIfInBounds_toArray, List.set_cons_zero, List.set_cons_succ]
        refine wpAnyH_take (i := 18) (oi := { dst := some 122, op := Op.load 3 (Operand.tmp 121), type := 3, pos := "rows.go:284", after := #[{ on := 17, ground := Ground.data }, { on := 10, ground := Ground.guard }], guard := some (10, true) }) (v := undef) rfl (by kernel_rfl) (by kernel_rfl) (by kernel_rfl) (fun _ _ _ h => h) (Or.inr ⟨by rfl, rfl⟩) (by assumption) ?_
        simp only [Act.put, List.setIfInBounds_toArray, List.set_cons_zero, List.set_cons_succ]
        refine wpAnyH_take (i := 19) (oi := { dst := some 123, op := Op.unOp UnOp.neg 3 (Operand.tmp 122), type := 3, pos := "rows.go:284", after := #[{ on := 18, ground := Ground.data }, { on := 10, ground := Ground.guard }], guard := some (10, true) }) (v := undef) rfl (by kernel_rfl) (by kernel_rfl) (by kernel_rfl) (fun _ _ _ h => h) (Or.inr ⟨by rfl, rfl⟩) (by assumption) ?_
        simp only [Act.put, List.setIfInBounds_toArray, List.set_cons_zero, List.set_cons_succ]
        refine wpAnyH_take (i := 20) (oi := { dst := some 124, op := Op.binOp BinOp.sub 3 (Operand.tmp 123) (Operand.const (Value.int IntKind.i64 1)) 3, type := 3, pos := "rows.go:284", after := #[{ on := 19, ground := Ground.data }, { on := 10, ground := Ground.guard }], guard := some (10, true) }) (v := undef) rfl (by kernel_rfl) (by kernel_rfl) (by kernel_rfl) (fun _ _ _ h => h) (Or.inr ⟨by rfl, rfl⟩) (by assumption) ?_
        simp only [Act.put, List.setIfInBounds_toArray, List.set_cons_zero, List.set_cons_succ]
        refine wpAnyH_take (i := 21) (oi := { dst := some 125, op := Op.call { callee := Callee.value (Operand.func 29), args := #[Operand.tmp 118, Operand.tmp 120, Operand.const (Value.int IntKind.i64 1), Operand.tmp 124], argTypes := #[3, 3, 3, 3] }, type := 37, pos := "rows.go:284", after := #[{ on := 14, ground := Ground.data }, { on := 16, ground := Ground.data }, { on := 20, ground := Ground.data }, { on := 10, ground := Ground.chain }, { on := 10, ground := Ground.guard }], guard := some (10, true) }) (v := undef) rfl (by kernel_rfl) (by kernel_rfl) (by kernel_rfl) (fun _ _ _ h => h) (Or.inr ⟨by rfl, rfl⟩) (by assumption) ?_
        simp only [Act.put, List.setIfInBounds_toArray, List.set_cons_zero, List.set_cons_succ]
        refine wpAnyH_take (i := 22) (oi := { dst := some 126, op := Op.call { callee := Callee.value (Operand.tmp 115), args := #[Operand.tmp 117, Operand.tmp 125], argTypes := #[3, 37] }, type := 4, pos := "rows.go:284", after := #[{ on := 11, ground := Ground.data }, { on := 13, ground := Ground.data }, { on := 21, ground := Ground.data }, { on := 21, ground := Ground.chain }, { on := 10, ground := Ground.guard }], guard := some (10, true) }) (v := undef) rfl (by kernel_rfl) (by kernel_rfl) (by kernel_rfl) (fun _ _ _ h => h) (Or.inr ⟨by rfl, rfl⟩) (by assumption) ?_
        simp only [Act.put, List.setIfInBounds_toArray, List.set_cons_zero, List.set_cons_succ]
        refine wpAnyH_take (i := 23) (oi := { dst := some 127, op := Op.pick (Operand.tmp 114) (Operand.tmp 126) (Operand.const (Value.bool false)), type := 4, pos := "rows.go:284", after := #[{ on := 10, ground := Ground.data }, { on := 22, ground := Ground.data }], guard := none }) (v := .bool false) rfl (by kernel_rfl) (by kernel_rfl) (by kernel_rfl) (fun _ _ _ h => h) (Or.inl ⟨by rfl, fun W hSW => ?_⟩) (by assumption) ?_
        · dsimp only at hSW
          go_simp
        simp only [Act.put, List.setIfInBounds_toArray, List.set_cons_zero, List.set_cons_succ]
        refine wpAnyH_take (i := 24) (oi := { dst := some 8, op := Op.assign (Operand.tmp 127), type := 4, pos := "rows.go:284", after := #[{ on := 23, ground := Ground.data }, { on := 22, ground := Ground.chain }, { on := 0, ground := Ground.phase }, { on := 1, ground := Ground.phase }, { on := 2, ground := Ground.phase }, { on := 3, ground := Ground.phase }, { on := 4, ground := Ground.phase }, { on := 5, ground := Ground.phase }, { on := 6, ground := Ground.phase }, { on := 7, ground := Ground.phase }, { on := 8, ground := Ground.phase }, { on := 9, ground := Ground.phase }, { on := 10, ground := Ground.phase }, { on := 11, ground := Ground.phase }, { on := 12, ground := Ground.phase }, { on := 13, ground := Ground.phase }, { on := 14, ground := Ground.phase }, { on := 15, ground := Ground.phase }, { on := 16, ground := Ground.phase }, { on := 17, ground := Ground.phase }, { on := 18, ground := Ground.phase }, { on := 19, ground := Ground.phase }, { on := 20, ground := Ground.phase }, { on := 21, ground := Ground.phase }, { on := 22, ground := Ground.phase }, { on := 23, ground := Ground.phase }], guard := none }) (v := .bool false) rfl (by kernel_rfl) (by kernel_rfl) (by kernel_rfl) (fun _ _ _ h => h) (Or.inl ⟨by rfl, fun W hSW => ?_⟩) (by assumption) ?_
        · dsimp only at hSW
          go_simp
        simp only [Act.put, List.setIfInBounds_toArray, List.set_cons_zero, List.set_cons_succ]
        refine wpAnyH_done (by kernel_rfl) ?_ _
        go_wp2_with fail
        go_ret
        exact ⟨ret_bool Hcl.out.symm, HM2.out.below.trans (HB5.out.mono HM2.out.below.size)⟩
      | true =>
        have HF1 := Lib.hid hF1
        have Hcl := Lib.hid (show closesF n p (fu + 1) at' l = closesF n p fu el (l ++ [unitR n xn 1 (-sk - 1)]) by rw [hcl, hF1]; simp)
        clear hcl hb1 hb2 hF1 hbb
        go_upto_region 16 with (first
            | (have _ := HDone
               go_at_call 26
               refine (between_c sk (-1048576) 1048576 w2).mono ?_
               rw [Hb2.out]
               rintro e w3 ⟨rfl, rfl⟩)
            | (go_at_call 26
               refine (between_c xn 0 ((n : Int) - 1) w2).mono ?_
               rw [Hb1.out]
               rintro e w3 ⟨rfl, rfl⟩
               have HDone := Lib.hid True.intro))
        clear x0 x1 x2 x3 x4 x5 x6 x7 xL xS
        refine wp_region_held_drew (S := fun w' => w'.cell? ⟨g9, 6, none⟩ = some (.int .i64 nx) ∧ w'.cell? ⟨g9, 7, none⟩ = some (.int .i64 el) ∧ w'.cell? ⟨g9, 4, none⟩ = some (.int .i64 xn) ∧ w'.cell? ⟨g9, 5, none⟩ = some (.int .i64 sk)) (by kernel_rfl) (HCC.out _ ((Below.refl w2.heap.size w2).drew)) ?_
        intro hS
        change wpAnyH _ _ _ _ _ 25 #[false, false, false, false, false, false, false, false, false, false, false, false, false, false, false, false, false, false, false, false, false, false, false, false, false] _ _
        refine wpAnyH_take (i := 0) (oi := { dst := some 104, op := Op.move (Operand.tmp 11), type := 77, pos := "rows.go:284", after := #[], guard := none }) (v := .func (.func 41) #[] #[.pointer (some ⟨w.heap.size, 0, none⟩), .pointer (some ⟨w.heap.size + 1, 0, none⟩), .pointer (some ⟨w.heap.size + 1 + 1, 0, none⟩)]) rfl (by kernel_rfl) (by kernel_rfl) (by kernel_rfl) (fun _ _ _ h => h) (Or.inl ⟨by rfl, fun W hSW => ?_⟩) (by assumption) ?_
        · dsimp only at hSW
          go_simp
        simp only [Act.put, List.setIfInBounds_toArray, List.set_cons_zero, List.set_cons_succ]
        refine wpAnyH_take (i := 1) (oi := { dst := some 105, op := Op.fieldAddr 49 (Operand.tmp 9) 6, type := 0, pos := "rows.go:284", after := #[], guard := none }) (v := .pointer (some ⟨g9, 6, none⟩)) rfl (by kernel_rfl) (by kernel_rfl) (by kernel_rfl) (fun _ _ _ h => h) (Or.inl ⟨by rfl, fun W hSW => ?_⟩) (by assumption) ?_
        · dsimp only at hSW
          go_simp
        simp only [Act.put, List.setIfInBounds_toArray, List.set_cons_zero, List.set_cons_succ]
        refine wpAnyH_take (i := 2) (oi := { dst := some 106, op := Op.load 3 (Operand.tmp 105), type := 3, pos := "rows.go:284", after := #[{ on := 1, ground := Ground.data }], guard := none }) (v := .int .i64 nx) rfl (by kernel_rfl) (by kernel_rfl) (by kernel_rfl) (fun _ _ _ h => h) (Or.inl ⟨by rfl, fun W hSW => ?_⟩) (by assumption) ?_
        · dsimp only at hSW
          go_simp
        simp only [Act.put, List.setIfInBounds_toArray, List.set_cons_zero, List.set_cons_succ]
        refine wpAnyH_take (i := 3) (oi := { dst := some 107, op := Op.move (Operand.tmp 10), type := 3, pos := "rows.go:284", after := #[], guard := none }) (v := .int .i64 n) rfl (by kernel_rfl) (by kernel_rfl) (by kernel_rfl) (fun _ _ _ h => h) (Or.inl ⟨by rfl, fun W hSW => ?_⟩) (by assumption) ?_
        · dsimp only at hSW
          go_simp
        simp only [Act.put, List.setIfInBounds_toArray, List.set_cons_zero, List.set_cons_succ]
        refine wpAnyH_take (i := 4) (oi := { dst := some 108, op := Op.fieldAddr 49 (Operand.tmp 9) 4, type := 0, pos := "rows.go:284", after := #[], guard := none }) (v := .pointer (some ⟨g9, 4, none⟩)) rfl (by kernel_rfl) (by kernel_rfl) (by kernel_rfl) (fun _ _ _ h => h) (Or.inl ⟨by rfl, fun W hSW => ?_⟩) (by assumption) ?_
        · dsimp only at hSW
          go_simp
        simp only [Act.put, List.setIfInBounds_toArray, List.set_cons_zero, List.set_cons_succ]
        refine wpAnyH_take (i := 5) (oi := { dst := some 109, op := Op.load 3 (Operand.tmp 108), type := 3, pos := "rows.go:284", after := #[{ on := 4, ground := Ground.data }], guard := none }) (v := .int .i64 xn) rfl (by kernel_rfl) (by kernel_rfl) (by kernel_rfl) (fun _ _ _ h => h) (Or.inl ⟨by rfl, fun W hSW => ?_⟩) (by assumption) ?_
        · dsimp only at hSW
          go_simp
        simp only [Act.put, List.setIfInBounds_toArray, List.set_cons_zero, List.set_cons_succ]
        refine wpAnyH_take (i := 6) (oi := { dst := some 110, op := Op.fieldAddr 49 (Operand.tmp 9) 5, type := 0, pos := "rows.go:284", after := #[], guard := none }) (v := .pointer (some ⟨g9, 5, none⟩)) rfl (by kernel_rfl) (by kernel_rfl) (by kernel_rfl) (fun _ _ _ h => h) (Or.inl ⟨by rfl, fun W hSW => ?_⟩) (by assumption) ?_
        · dsimp only at hSW
          go_simp
        simp only [Act.put, List.setIfInBounds_toArray, List.set_cons_zero, List.set_cons_succ]
        refine wpAnyH_take (i := 7) (oi := { dst := some 111, op := Op.load 3 (Operand.tmp 110), type := 3, pos := "rows.go:284", after := #[{ on := 6, ground := Ground.data }], guard := none }) (v := .int .i64 sk) rfl (by kernel_rfl) (by kernel_rfl) (by kernel_rfl) (fun _ _ _ h => h) (Or.inl ⟨by rfl, fun W hSW => ?_⟩) (by assumption) ?_
        · dsimp only at hSW
          go_simp
        simp only [Act.put, List.setIfInBounds_toArray, List.set_cons_zero, List.set_cons_succ]
        refine wpAnyH_ready (rs := [8]) (by kernel_rfl) (by simp) ?_
        refine AllReadyH.cons (o := { dst := some 112, op := Op.call { callee := Callee.value (Operand.func 29), args := #[Operand.tmp 107, Operand.tmp 109, Operand.const (Value.int IntKind.i64 (-1)), Operand.tmp 111], argTypes := #[3, 3, 3, 3] }, type := 37, pos := "rows.go:284", after := #[{ on := 3, ground := Ground.data }, { on := 5, ground := Ground.data }, { on := 7, ground := Ground.data }], guard := none }) rfl (fun K hK => ?_) AllReadyH.nil
        refine step_call rfl 29 #[.int .i64 n, .int .i64 xn, .int .i64 (-1), .int .i64 (sk)] (by go_simp) ((unit_c n xn (-1) (sk) w2.drew hn12 hxn (i64_small (by omega) (by omega)) (i64_small (by omega) (by omega))).mono ?_)
        rintro e w4 ⟨uw4, vw4, rfl, hrw4, hbw4⟩
        refine ⟨_, rfl, ?_⟩
        have HR4 := Lib.hid hrw4
        have HB4 := Lib.hid (((Below.refl w2.heap.size w2).drew).trans (hbw4))
        have HM4 := Lib.hid (HM2.out.belowed HB4.out)
        clear hrw4 hbw4
        refine hK.out _ _ (HCC.out _ HB4.out) (fun hS => ?_)
        simp only [Act.put, List.setIfInBounds_toArray, List.set_cons_zero, List.set_cons_succ]
        refine wpAnyH_ready (rs := [9]) (by kernel_rfl) (by simp) ?_
        refine AllReadyH.cons (o := { dst := some 113, op := Op.call { callee := Callee.value (Operand.tmp 104), args := #[Operand.tmp 106, Operand.tmp 112], argTypes := #[3, 37] }, type := 4, pos := "rows.go:284", after := #[{ on := 0, ground := Ground.data }, { on := 2, ground := Ground.data }, { on := 8, ground := Ground.data }, { on := 8, ground := Ground.chain }], guard := none }) rfl (fun K hK => ?_) AllReadyH.nil
        have _ := HB4
        refine step_call rfl 41 #[.int .i64 nx, .agg #[uw4, vw4], .pointer (some ⟨w.heap.size, 0, none⟩), .pointer (some ⟨w.heap.size + 1, 0, none⟩), .pointer (some ⟨w.heap.size + 1 + 1, 0, none⟩)] (by go_simp) ((next_c A n c B m d (some ad) pn pc p fu IH.out w.heap.size (w.heap.size + 1) (w.heap.size + 1 + 1) nx L ln lc l uw4 vw4 (unitR n xn (-1) sk) _ HM4.out.bs HM4.out.bp HM4.out.bl (H1w.out.below HB4.out) (H2w.out.below HB4.out) (HR4.out.weak (fun _ _ _ => trivial)) HL.out (unit_ok (by omega) (by omega)) HNi.out.2 (by omega) (by omega)).mono ?_)
        rw [HF1.out]
        rintro e w5 ⟨rfl, hbw5⟩
        refine ⟨_, rfl, ?_⟩
        have HB5 := Lib.hid (HB4.out.trans (hbw5.mono HB4.out.size))
        clear hbw5
        refine hK.out _ _ (HCC.out _ HB5.out) (fun hS => ?_)
        simp only [Act.put, List.setIfInBounds_toArray, List.set_cons_zero, List.set_cons_succ]
        refine wpAnyH_take (i := 10) (oi := { dst := some 114, op := Op.move (Operand.tmp 113), type := 4, pos := "rows.go:284", after := #[{ on := 9, ground := Ground.data }, { on := 9, ground := Ground.chain }], guard := none }) (v := .bool true) rfl (by kernel_rfl) (by kernel_rfl) (by kernel_rfl) (fun _ _ _ h => h) (Or.inl ⟨by rfl, fun W hSW => ?_⟩) (by assumption) ?_
        · dsimp only at hSW
          go_simp
        simp only [Act.put, List.setIfInBounds_toArray, List.set_cons_zero, List.set_cons_succ]
        refine wpAnyH_take (i := 11) (oi := { dst := some 115, op := Op.move (Operand.tmp 11), type := 77, pos := "rows.go:284", after := #[{ on := 10, ground := Ground.guard }], guard := some (10, true) }) (v := .func (.func 41) #[] #[.pointer (some ⟨w.heap.size, 0, none⟩), .pointer (some ⟨w.heap.size + 1, 0, none⟩), .pointer (some ⟨w.heap.size + 1 + 1, 0, none⟩)]) rfl (by kernel_rfl) (by kernel_rfl) (by kernel_rfl) (fun _ _ _ h => h) (Or.inl ⟨by rfl, fun W hSW => ?_⟩) (by assumption) ?_
        · dsimp only at hSW
          go_simp
        simp only [Act.put, List.setIfInBounds_toArray, List.set_cons_zero, List.set_cons_succ]
        refine wpAnyH_take (i := 12) (oi := { dst := some 116, op := Op.fieldAddr 49 (Operand.tmp 9) 7, type := 0, pos := "rows.go:284", after := #[{ on := 10, ground := Ground.guard }], guard := some (10, true) }) (v := .pointer (some ⟨g9, 7, none⟩)) rfl (by kernel_rfl) (by kernel_rfl) (by kernel_rfl) (fun _ _ _ h => h) (Or.inl ⟨by rfl, fun W hSW => ?_⟩) (by assumption) ?_
        · dsimp only at hSW
          go_simp
        simp only [Act.put, List.setIfInBounds_toArray, List.set_cons_zero, List.set_cons_succ]
        refine wpAnyH_take (i := 13) (oi := { dst := some 117, op := Op.load 3 (Operand.tmp 116), type := 3, pos := "rows.go:284", after := #[{ on := 12, ground := Ground.data }, { on := 10, ground := Ground.guard }], guard := some (10, true) }) (v := .int .i64 el) rfl (by kernel_rfl) (by kernel_rfl) (by kernel_rfl) (fun _ _ _ h => h) (Or.inl ⟨by rfl, fun W hSW => ?_⟩) (by assumption) ?_
        · dsimp only at hSW
          go_simp
        simp only [Act.put, List.setIfInBounds_toArray, List.set_cons_zero, List.set_cons_succ]
        refine wpAnyH_take (i := 14) (oi := { dst := some 118, op := Op.move (Operand.tmp 10), type := 3, pos := "rows.go:284", after := #[{ on := 10, ground := Ground.guard }], guard := some (10, true) }) (v := .int .i64 n) rfl (by kernel_rfl) (by kernel_rfl) (by kernel_rfl) (fun _ _ _ h => h) (Or.inl ⟨by rfl, fun W hSW => ?_⟩) (by assumption) ?_
        · dsimp only at hSW
          go_simp
        simp only [Act.put, List.setIfInBounds_toArray, List.set_cons_zero, List.set_cons_succ]
        refine wpAnyH_take (i := 15) (oi := { dst := some 119, op := Op.fieldAddr 49 (Operand.tmp 9) 4, type := 0, pos := "rows.go:284", after := #[{ on := 10, ground := Ground.guard }], guard := some (10, true) }) (v := .pointer (some ⟨g9, 4, none⟩)) rfl (by kernel_rfl) (by kernel_rfl) (by kernel_rfl) (fun _ _ _ h => h) (Or.inl ⟨by rfl, fun W hSW => ?_⟩) (by assumption) ?_
        · dsimp only at hSW
          go_simp
        simp only [Act.put, List.setIfInBounds_toArray, List.set_cons_zero, List.set_cons_succ]
        refine wpAnyH_take (i := 16) (oi := { dst := some 120, op := Op.load 3 (Operand.tmp 119), type := 3, pos := "rows.go:284", after := #[{ on := 15, ground := Ground.data }, { on := 10, ground := Ground.guard }], guard := some (10, true) }) (v := .int .i64 xn) rfl (by kernel_rfl) (by kernel_rfl) (by kernel_rfl) (fun _ _ _ h => h) (Or.inl ⟨by rfl, fun W hSW => ?_⟩) (by assumption) ?_
        · dsimp only at hSW
          go_simp
        simp only [Act.put, List.setIfInBounds_toArray, List.set_cons_zero, List.set_cons_succ]
        refine wpAnyH_take (i := 17) (oi := { dst := some 121, op := Op.fieldAddr 49 (Operand.tmp 9) 5, type := 0, pos := "rows.go:284", after := #[{ on := 10, ground := Ground.guard }], guard := some (10, true) }) (v := .pointer (some ⟨g9, 5, none⟩)) rfl (by kernel_rfl) (by kernel_rfl) (by kernel_rfl) (fun _ _ _ h => h) (Or.inl ⟨by rfl, fun W hSW => ?_⟩) (by assumption) ?_
        · dsimp only at hSW
          go_simp
        simp only [Act.put, List.setIfInBounds_toArray, List.set_cons_zero, List.set_cons_succ]
        refine wpAnyH_take (i := 18) (oi := { dst := some 122, op := Op.load 3 (Operand.tmp 121), type := 3, pos := "rows.go:284", after := #[{ on := 17, ground := Ground.data }, { on := 10, ground := Ground.guard }], guard := some (10, true) }) (v := .int .i64 sk) rfl (by kernel_rfl) (by kernel_rfl) (by kernel_rfl) (fun _ _ _ h => h) (Or.inl ⟨by rfl, fun W hSW => ?_⟩) (by assumption) ?_
        · dsimp only at hSW
          go_simp
        simp only [Act.put, List.setIfInBounds_toArray, List.set_cons_zero, List.set_cons_succ]
        refine wpAnyH_take (i := 19) (oi := { dst := some 123, op := Op.unOp UnOp.neg 3 (Operand.tmp 122), type := 3, pos := "rows.go:284", after := #[{ on := 18, ground := Ground.data }, { on := 10, ground := Ground.guard }], guard := some (10, true) }) (v := .int .i64 (-sk)) rfl (by kernel_rfl) (by kernel_rfl) (by kernel_rfl) (fun _ _ _ h => h) (Or.inl ⟨by rfl, fun W hSW => ?_⟩) (by assumption) ?_
        · dsimp only at hSW
          go_simp
          exact i64_wrap _ (by omega)
        simp only [Act.put, List.setIfInBounds_toArray, List.set_cons_zero, List.set_cons_succ]
        refine wpAnyH_take (i := 20) (oi := { dst := some 124, op := Op.binOp BinOp.sub 3 (Operand.tmp 123) (Operand.const (Value.int IntKind.i64 1)) 3, type := 3, pos := "rows.go:284", after := #[{ on := 19, ground := Ground.data }, { on := 10, ground := Ground.guard }], guard := some (10, true) }) (v := .int .i64 (-sk - 1)) rfl (by kernel_rfl) (by kernel_rfl) (by kernel_rfl) (fun _ _ _ h => h) (Or.inl ⟨by rfl, fun W hSW => ?_⟩) (by assumption) ?_
        · dsimp only at hSW
          go_simp
          exact i64_wrap _ (by omega)
        simp only [Act.put, List.setIfInBounds_toArray, List.set_cons_zero, List.set_cons_succ]
        refine wpAnyH_ready (rs := [21]) (by kernel_rfl) (by simp) ?_
        refine AllReadyH.cons (o := { dst := some 125, op := Op.call { callee := Callee.value (Operand.func 29), args := #[Operand.tmp 118, Operand.tmp 120, Operand.const (Value.int IntKind.i64 1), Operand.tmp 124], argTypes := #[3, 3, 3, 3] }, type := 37, pos := "rows.go:284", after := #[{ on := 14, ground := Ground.data }, { on := 16, ground := Ground.data }, { on := 20, ground := Ground.data }, { on := 10, ground := Ground.chain }, { on := 10, ground := Ground.guard }], guard := some (10, true) }) rfl (fun K hK => ?_) AllReadyH.nil
        have _ := HB5
        refine step_callG (by rfl) 29 #[.int .i64 n, .int .i64 xn, .int .i64 (1), .int .i64 (-sk - 1)] (by go_simp) ((unit_c n xn (1) (-sk - 1) w5 hn12 hxn (i64_small (by omega) (by omega)) (i64_small (by omega) (by omega))).mono ?_)
        rintro e w6 ⟨uw6, vw6, rfl, hrw6, hbw6⟩
        refine ⟨_, rfl, ?_⟩
        have HR6 := Lib.hid hrw6
        have HB6 := Lib.hid (HB5.out.trans (hbw6.mono HB5.out.size))
        have HM6 := Lib.hid (HM2.out.belowed HB6.out)
        clear hrw6 hbw6
        refine hK.out _ _ (HCC.out _ HB6.out) (fun hS => ?_)
        simp only [Act.put, List.setIfInBounds_toArray, List.set_cons_zero, List.set_cons_succ]
        refine wpAnyH_ready (rs := [22]) (by kernel_rfl) (by simp) ?_
        refine AllReadyH.cons (o := { dst := some 126, op := Op.call { callee := Callee.value (Operand.tmp 115), args := #[Operand.tmp 117, Operand.tmp 125], argTypes := #[3, 37] }, type := 4, pos := "rows.go:284", after := #[{ on := 11, ground := Ground.data }, { on := 13, ground := Ground.data }, { on := 21, ground := Ground.data }, { on := 21, ground := Ground.chain }, { on := 10, ground := Ground.guard }], guard := some (10, true) }) rfl (fun K hK => ?_) AllReadyH.nil
        have _ := HB6
        refine step_callG (by rfl) 41 #[.int .i64 el, .agg #[uw6, vw6], .pointer (some ⟨w.heap.size, 0, none⟩), .pointer (some ⟨w.heap.size + 1, 0, none⟩), .pointer (some ⟨w.heap.size + 1 + 1, 0, none⟩)] (by go_simp) ((next_c A n c B m d (some ad) pn pc p fu IH.out w.heap.size (w.heap.size + 1) (w.heap.size + 1 + 1) el L ln lc l uw6 vw6 (unitR n xn 1 (-sk - 1)) _ HM6.out.bs HM6.out.bp HM6.out.bl (H1w.out.below HB6.out) (H2w.out.below HB6.out) (HR6.out.weak (fun _ _ _ => trivial)) HL.out (unit_ok (by omega) (by omega)) HEi.out.2 (by omega) (by omega)).mono ?_)
        rintro e w7 ⟨rfl, hbw7⟩
        refine ⟨_, rfl, ?_⟩
        have HB7 := Lib.hid (HB6.out.trans (hbw7.mono HB6.out.size))
        clear hbw7
        refine hK.out _ _ (HCC.out _ HB7.out) (fun hS => ?_)
        simp only [Act.put, List.setIfInBounds_toArray, List.set_cons_zero, List.set_cons_succ]
        refine wpAnyH_take (i := 23) (oi := { dst := some 127, op := Op.pick (Operand.tmp 114) (Operand.tmp 126) (Operand.const (Value.bool false)), type := 4, pos := "rows.go:284", after := #[{ on := 10, ground := Ground.data }, { on := 22, ground := Ground.data }], guard := none }) (v := .bool (closesF n p fu el (l ++ [unitR n xn 1 (-sk - 1)]))) rfl (by kernel_rfl) (by kernel_rfl) (by kernel_rfl) (fun _ _ _ h => h) (Or.inl ⟨by rfl, fun W hSW => ?_⟩) (by assumption) ?_
        · dsimp only at hSW
          go_simp
        simp only [Act.put, List.setIfInBounds_toArray, List.set_cons_zero, List.set_cons_succ]
        refine wpAnyH_take (i := 24) (oi := { dst := some 8, op := Op.assign (Operand.tmp 127), type := 4, pos := "rows.go:284", after := #[{ on := 23, ground := Ground.data }, { on := 22, ground := Ground.chain }, { on := 0, ground := Ground.phase }, { on := 1, ground := Ground.phase }, { on := 2, ground := Ground.phase }, { on := 3, ground := Ground.phase }, { on := 4, ground := Ground.phase }, { on := 5, ground := Ground.phase }, { on := 6, ground := Ground.phase }, { on := 7, ground := Ground.phase }, { on := 8, ground := Ground.phase }, { on := 9, ground := Ground.phase }, { on := 10, ground := Ground.phase }, { on := 11, ground := Ground.phase }, { on := 12, ground := Ground.phase }, { on := 13, ground := Ground.phase }, { on := 14, ground := Ground.phase }, { on := 15, ground := Ground.phase }, { on := 16, ground := Ground.phase }, { on := 17, ground := Ground.phase }, { on := 18, ground := Ground.phase }, { on := 19, ground := Ground.phase }, { on := 20, ground := Ground.phase }, { on := 21, ground := Ground.phase }, { on := 22, ground := Ground.phase }, { on := 23, ground := Ground.phase }], guard := none }) (v := .bool (closesF n p fu el (l ++ [unitR n xn 1 (-sk - 1)]))) rfl (by kernel_rfl) (by kernel_rfl) (by kernel_rfl) (fun _ _ _ h => h) (Or.inl ⟨by rfl, fun W hSW => ?_⟩) (by assumption) ?_
        · dsimp only at hSW
          go_simp
        simp only [Act.put, List.setIfInBounds_toArray, List.set_cons_zero, List.set_cons_succ]
        refine wpAnyH_done (by kernel_rfl) ?_ _
        go_wp2_with fail
        go_ret
        exact ⟨ret_bool Hcl.out.symm, HM2.out.below.trans (HB7.out.mono HM2.out.below.size)⟩

end Go.Proofs.Ytjienelkjpodkaa
