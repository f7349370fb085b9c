/- The law ClausePropagationIsMonotone: for every input it gives true and leaves its arguments as they were.
   Conditions: none beyond the row's own (readable arguments within the form's reach). -/
import Derived.Test.YtekbkdbmkjdgbaaW23
import Derived.Test.YtekbkdbmkjdgbaaL5
import Derived.Test.YtekbkdbmkjdgbaaW24
namespace Go.Proofs.Ytekbkdbmkjdgbaa
open Go.ChangeShapes Go.WideShapes Go.ChangeAt Go.RowKit

theorem lit_own (W : World) (A : Obj) (v : Value) : Own ((W.alloc A).alloc (.cells #[v] 32)) W.heap.size 32 (some ⟨W.heap.size + 1, 0, none⟩) 1 1 [v] := by
  have h := Own.lit (w := W.alloc A) (base := W.heap.size) 32 #[v] 1 (by simp) (by omega) rfl
  rw [show (W.alloc A).heap.size = W.heap.size + 1 by simp] at h
  exact h
theorem two_below (W : World) (A B : Obj) : Below W.heap.size W ((W.alloc A).alloc B) := ((Below.refl _ _).alloc (Nat.le_refl _) _).alloc (by simp) _
theorem two_grown {W w8 : World} {A B : Obj} (h : ((W.alloc A).alloc B).grownBy w8 (obl (some ⟨W.heap.size + 1, 0, none⟩))) : Below W.heap.size W w8 :=
  (two_below W A B).grown h (by simp; omega) (fun k hk => by cases hk; exact Nat.le_succ _)
theorem cons_r1 {w6 : World} {b n c : Nat} {A : Option Addr} {x : Int} {l : List Int} (h : Own w6 b 3 A (1 + n) c ([.int .i64 x] ++ l.map (Value.int .i64))) (hx : I64 x) (hl : ∀ y ∈ l, I64 y) (hn : n ≤ 4) : R1 w6 (fun _ => True) A (1 + n) c (x :: l) := by
  have h' : Own w6 b 3 A (1 + n) c ((x :: l).map (Value.int .i64)) := h
  exact h'.r1 (fun _ _ => trivial) (by omega) (fun y hy => by
    rcases List.mem_cons.1 hy with e | e
    · rw [e]; exact hx
    · exact hl y e)
theorem cons_r2 {W w8 : World} {A8 : Option Addr} {n c : Nat} {x : Int} {us : List Value} {F : List (List Int)} (hx : I64 x)
    (h : Own w8 W.heap.size 32 A8 (1 + n) c ([.slice (some ⟨W.heap.size, 0, none⟩) 1 1] ++ us))
    (hg : ((W.alloc (.cells #[.int .i64 x] 3)).alloc (.cells #[.slice (some ⟨W.heap.size, 0, none⟩) 1 1] 32)).grownBy w8 (obl (some ⟨W.heap.size + 1, 0, none⟩)))
    (ha : All1 w8 (fun _ => True) us F) (hn : n ≤ 12) : R2 w8 (fun _ => True) A8 (1 + n) c ([x] :: F) := by
  have h1 : R1 (lit1W W [x]) (fun _ => True) (some ⟨W.heap.size, 0, none⟩) 1 1 [x] := lit1_r1 W [x] (by simp) (fun y hy => by simp only [List.mem_singleton] at hy; rw [hy]; exact hx)
  have hb : Below (lit1W W [x]).heap.size (lit1W W [x]) w8 := by
    rw [lit1_size]
    have h0 : Below (W.heap.size + 1) (lit1W W [x]) ((W.alloc (.cells #[.int .i64 x] 3)).alloc (.cells #[.slice (some ⟨W.heap.size, 0, none⟩) 1 1] 32)) := (Below.refl (W.heap.size + 1) (lit1W W [x])).alloc (by rw [lit1_size]; exact Nat.le_refl _) _
    exact h0.grown hg (by simp) (fun k hk => by cases hk; exact Nat.le_refl _)
  exact h.r2 (fun _ _ => trivial) (by omega) (All1.app (All1.snoc (All1.nil_ _ _) ⟨_, 1, 1, rfl, h1.below hb⟩) ha)

set_option maxHeartbeats 8000000 in
set_option maxRecDepth 100000 in
theorem law11_walk (A : Option Addr) (n c : Nat) (f : List (List Int)) (lA : Option Addr) (ln lc : Nat) (l : List Int) (x : Int) (w : World) (h : R2 w (fun _ => True) A n c f) (h' : R1 w (fun _ => True) lA ln lc l) (hm : I64 x) :
    Calls Try.prog 11 #[.slice A n c, .slice lA ln lc, .int .i64 x] w (Gives w (.bool true)) := by
  have HF := Lib.hid h
  have HL := Lib.hid h'
  have hb1 := h.big
  have hc1 := h.cap
  have hb2 := h'.big
  have hc2 := h'.cap
  clear h h'
  have hN12 := madeF_len f
  have hxw := madeL_wi x
  obtain ⟨v0, v1, v2⟩ := wi_facts hxw
  have HXi := Lib.hid (show I64 (madeL x) by unfold I64; omega)
  have HML := Lib.hid fun W => madeL_c x W hm
  have hlw16 : (madeC l).all (wi 16) = true := all_mono (n := 4) (madeC_wi l) (by omega)
  have hv16 := valid_up (madeF_valid f)
  have hxw16 : wi 16 (madeL x) = true := wi_mono hxw (by omega)
  have hun := start_unit (x := madeL x) (valid_lits hv16) hlw16 hxw16
  have hg16 : validB ([madeL x] :: madeF f) 16 = true := valid_cons hv16 (by omega) hxw16
  have hxl16 : (madeL x :: madeC l).all (wi 16) = true := by rw [List.all_cons, hxw16, hlw16]; rfl
  have HP1 := Lib.hid fun W fA kA fn fc kn kc (h : R2 W (fun _ => True) fA fn fc (madeF f)) (h' : R1 W (fun _ => True) kA kn kc (madeC l)) => propagate23_c _ _ fA kA fn fc kn kc (madeF f) (madeC l) W h h'
  have HP2 := Lib.hid fun W fA kA fn fc kn kc (h : R2 W (fun _ => True) fA fn fc (madeF f)) (h' : R1 W (fun _ => True) kA kn kc (madeL x :: madeC l)) => propagate23_c _ _ fA kA fn fc kn kc (madeF f) (madeL x :: madeC l) W h h'
  have HP3 := Lib.hid fun W fA kA fn fc kn kc (h : R2 W (fun _ => True) fA fn fc ([madeL x] :: madeF f)) (h' : R1 W (fun _ => True) kA kn kc (madeC l)) => propagate23_c _ _ fA kA fn fc kn kc ([madeL x] :: madeF f) (madeC l) W h h'
  cases hsb : startF (madeF f) (madeL x :: madeC l) with
  | none =>
    rw [propagate_none hsb] at HP2
    rw [propagate_none (hun.trans hsb)] at HP3
    generalize propagateF (madeF f) (madeC l) = r1 at *
    obtain ⟨s1, one⟩ := r1
    clear hsb hun hg16 hxl16 hlw16 hv16 hxw hxw16 hm hN12
    go_enter Try.func11, Try.ntmps11
    go_wp2_with (first | (go_at_call 15; refine (sanity_c _).mono ?_; rintro e w1 ⟨rfl, hb⟩; have HB1 := Lib.hid hb; clear hb) | (go_at_call 30; refine (madeF_c _ A n c f _ (HF.out.below HB1.out)).mono ?_; rintro e w2 ⟨fad, fn, fc, rfl, hf, hn12, hb⟩; have HB2 := Lib.hid (HB1.out.trans (hb.mono HB1.out.size)); have HM2 := Lib.hid (hf.weak (K' := fun _ => True) fun _ _ _ => trivial); have hfc := hf.cap; clear hb hf) | (go_at_call 33; refine (madeC_c _ lA ln lc l w2 (HL.out.below HB2.out)).mono ?_; rintro e w3 ⟨kA, kn, kc, rfl, hc, hkn4, hb⟩; have HB3 := Lib.hid (HB2.out.trans (hb.mono HB2.out.size)); have HM3 := Lib.hid (HM2.out.below hb); have HK3 := Lib.hid (hc.weak (K' := fun _ => True) fun _ _ _ => trivial); have hkc := hc.cap; clear hb hc) | (go_at_call 36; refine (HML.out w3).mono ?_; rintro e wq ⟨rfl, rfl⟩) | (go_at_call 23; refine (HP3.out w8 A8 kA (1 + fn) c8 kn kc HG8.out HK8.out).mono ?_; rintro e w9 ⟨cA, cn, cc, rfl, hs, hb⟩; have HB9 := Lib.hid (HB8.out.trans (hb.mono HB8.out.size)); have HA9 := Lib.hid (HA8.out.below hb); have HY9 := Lib.hid (HY8.out.below hb); have HZ9 := Lib.hid hs; clear hb hs) | (go_at_call 23; refine (HP2.out w6 (some fad) A6 fn fc (1 + kn) c6 HM6.out HX6.out).mono ?_; rintro e w7 ⟨bA, bn, bc, rfl, hs, hb⟩; have HB7 := Lib.hid (HB6.out.trans (hb.mono HB6.out.size)); have HM7 := Lib.hid (HM6.out.below hb); have HK7 := Lib.hid (HK6.out.below hb); have HA7 := Lib.hid (HA6.out.below hb); have HY7 := Lib.hid hs; have hbc := hs.cap; have hbb := hs.big; obtain ⟨us, hsl, hall⟩ := (HM6.out.below hb).ex; have HSl := Lib.hid hsl; have HAl := Lib.hid hall; clear hb hs hsl hall) | (go_at_call 23; refine (HP1.out w3 (some fad) kA fn fc kn kc HM3.out HK3.out).mono ?_; rintro e w5 ⟨aA, an, ac, rfl, hs, hb⟩; have HB5 := Lib.hid (HB3.out.trans (hb.mono HB3.out.size)); have HM5 := Lib.hid (HM3.out.below hb); have HK5 := Lib.hid (HK3.out.below hb); have HA5 := Lib.hid hs; have hac := hs.cap; have hab := hs.big; clear hb hs) | (at_builtin; refine wpList_appendSl rfl (.tmp 37) (.tmp 38) 32 rfl app32 w5.heap.size (some ⟨w5.heap.size, 0, none⟩) 1 1 [.int .i64 (madeL x)] rfl (Own.lit 3 #[.int .i64 (madeL x)] 1 (Nat.le_refl _) (by omega) rfl) kA kn kc ((madeC l).map (Value.int .i64)) rfl (by have := HK5.out.len; simpa using this) (HK5.out.below ((Below.refl _ _).alloc (Nat.le_refl _) _)).sl (ints_one _) (by omega) (by omega) (by simp) ?_; intro A6 c6 w6 hown hgr hob; have hb := (show Below w5.heap.size w5 w6 from ((Below.refl w5.heap.size w5).alloc (Nat.le_refl _) _).grown hgr (by simp) (fun k hk => by cases hk; exact Nat.le_refl _)); have HB6 := Lib.hid (HB5.out.trans (hb.mono HB5.out.size)); have HM6 := Lib.hid (HM5.out.below hb); have HK6 := Lib.hid (HK5.out.below hb); have HA6 := Lib.hid (HA5.out.below hb); have HX6 := Lib.hid (cons_r1 hown HXi.out (madeC_i64 l) hkn4); clear hown hgr hob hb) | (at_builtin; refine wpList_appendSl rfl (.tmp 45) (.tmp 46) 22 rfl app22 w7.heap.size (some ⟨w7.heap.size + 1, 0, none⟩) 1 1 [.slice (some ⟨w7.heap.size, 0, none⟩) 1 1] rfl (lit_own w7 _ _) (some fad) fn fc us rfl (by have h8 := HAl.out.1; have h9 := HM7.out.len; omega) (HSl.out.old (Old.of_below (two_below w7 _ _))) HAl.out.one (by omega) (by omega) (by simp <;> omega) ?_; intro A8 c8 w8 hown hgr hob; have hb := two_grown hgr; have HB8 := Lib.hid (HB7.out.trans (hb.mono HB7.out.size)); have HK8 := Lib.hid (HK7.out.below hb); have HA8 := Lib.hid (HA7.out.below hb); have HY8 := Lib.hid (HY7.out.below hb); have HG8 := Lib.hid (cons_r2 HXi.out hown hgr (HAl.out.old (Old.of_below hb)) hn12); clear hown hgr hob hb) | (go_at_call 25; refine (sameInts_c _ _ bA cA bn bc cn cc _ _ w9 HY9.out HZ9.out).mono ?_; rintro e w10 ⟨rfl, hb⟩; have HB10 := Lib.hid (HB9.out.trans (hb.mono HB9.out.size)); have HA10 := Lib.hid (HA9.out.below hb); have HY10 := Lib.hid (HY9.out.below hb); clear hb))
    go_loopw [18] (fun s18 wr => ∃ i : Nat, s18 = .int .i64 i ∧ wr = w10) (fun _ _ => 0)
    case atStart => exact ⟨0, rfl, rfl⟩
    case round =>
      obtain ⟨i, rfl, rfl⟩ := hrel
      go_wp2
      go_ret
      exact ⟨rfl, HB10.out⟩
  | some b =>
    have hL := valid_lits hv16
    obtain ⟨a, hsa, hext⟩ := start_more hL hlw16 hxw16 hsb
    have HIn := Lib.hid (show ∀ y ∈ litsF a 0, y ∈ litsF b 0 by
      have wa := (start_spec hL hlw16 hsa).1
      have wb := (start_spec hL hxl16 hsb).1
      intro y hy
      obtain ⟨h1, h2⟩ := (lits_val wa (start_zero hL hlw16 hsa)).1 hy
      exact (lits_val wb (start_zero hL hxl16 hsb)).2 ⟨h1, hext y h1 h2⟩)
    rw [propagate_some hv16 hlw16 hsa] at HP1
    rw [propagate_some hv16 hxl16 hsb] at HP2
    rw [propagate_some hg16 hlw16 (hun.trans hsb)] at HP3
    clear hsb hun hg16 hxl16 hlw16 hv16 hxw hxw16 hm hN12 hsa hext hL
    go_enter Try.func11, Try.ntmps11
    go_wp2_with (first | (go_at_call 15; refine (sanity_c _).mono ?_; rintro e w1 ⟨rfl, hb⟩; have HB1 := Lib.hid hb; clear hb) | (go_at_call 30; refine (madeF_c _ A n c f _ (HF.out.below HB1.out)).mono ?_; rintro e w2 ⟨fad, fn, fc, rfl, hf, hn12, hb⟩; have HB2 := Lib.hid (HB1.out.trans (hb.mono HB1.out.size)); have HM2 := Lib.hid (hf.weak (K' := fun _ => True) fun _ _ _ => trivial); have hfc := hf.cap; clear hb hf) | (go_at_call 33; refine (madeC_c _ lA ln lc l w2 (HL.out.below HB2.out)).mono ?_; rintro e w3 ⟨kA, kn, kc, rfl, hc, hkn4, hb⟩; have HB3 := Lib.hid (HB2.out.trans (hb.mono HB2.out.size)); have HM3 := Lib.hid (HM2.out.below hb); have HK3 := Lib.hid (hc.weak (K' := fun _ => True) fun _ _ _ => trivial); have hkc := hc.cap; clear hb hc) | (go_at_call 36; refine (HML.out w3).mono ?_; rintro e wq ⟨rfl, rfl⟩) | (go_at_call 23; refine (HP3.out w8 A8 kA (1 + fn) c8 kn kc HG8.out HK8.out).mono ?_; rintro e w9 ⟨cA, cn, cc, rfl, hs, hb⟩; have HB9 := Lib.hid (HB8.out.trans (hb.mono HB8.out.size)); have HA9 := Lib.hid (HA8.out.below hb); have HY9 := Lib.hid (HY8.out.below hb); have HZ9 := Lib.hid hs; clear hb hs) | (go_at_call 23; refine (HP2.out w6 (some fad) A6 fn fc (1 + kn) c6 HM6.out HX6.out).mono ?_; rintro e w7 ⟨bA, bn, bc, rfl, hs, hb⟩; have HB7 := Lib.hid (HB6.out.trans (hb.mono HB6.out.size)); have HM7 := Lib.hid (HM6.out.below hb); have HK7 := Lib.hid (HK6.out.below hb); have HA7 := Lib.hid (HA6.out.below hb); have HY7 := Lib.hid hs; have hbc := hs.cap; have hbb := hs.big; obtain ⟨us, hsl, hall⟩ := (HM6.out.below hb).ex; have HSl := Lib.hid hsl; have HAl := Lib.hid hall; clear hb hs hsl hall) | (go_at_call 23; refine (HP1.out w3 (some fad) kA fn fc kn kc HM3.out HK3.out).mono ?_; rintro e w5 ⟨aA, an, ac, rfl, hs, hb⟩; have HB5 := Lib.hid (HB3.out.trans (hb.mono HB3.out.size)); have HM5 := Lib.hid (HM3.out.below hb); have HK5 := Lib.hid (HK3.out.below hb); have HA5 := Lib.hid hs; have hac := hs.cap; have hab := hs.big; clear hb hs) | (at_builtin; refine wpList_appendSl rfl (.tmp 37) (.tmp 38) 32 rfl app32 w5.heap.size (some ⟨w5.heap.size, 0, none⟩) 1 1 [.int .i64 (madeL x)] rfl (Own.lit 3 #[.int .i64 (madeL x)] 1 (Nat.le_refl _) (by omega) rfl) kA kn kc ((madeC l).map (Value.int .i64)) rfl (by have := HK5.out.len; simpa using this) (HK5.out.below ((Below.refl _ _).alloc (Nat.le_refl _) _)).sl (ints_one _) (by omega) (by omega) (by simp) ?_; intro A6 c6 w6 hown hgr hob; have hb := (show Below w5.heap.size w5 w6 from ((Below.refl w5.heap.size w5).alloc (Nat.le_refl _) _).grown hgr (by simp) (fun k hk => by cases hk; exact Nat.le_refl _)); have HB6 := Lib.hid (HB5.out.trans (hb.mono HB5.out.size)); have HM6 := Lib.hid (HM5.out.below hb); have HK6 := Lib.hid (HK5.out.below hb); have HA6 := Lib.hid (HA5.out.below hb); have HX6 := Lib.hid (cons_r1 hown HXi.out (madeC_i64 l) hkn4); clear hown hgr hob hb) | (at_builtin; refine wpList_appendSl rfl (.tmp 45) (.tmp 46) 22 rfl app22 w7.heap.size (some ⟨w7.heap.size + 1, 0, none⟩) 1 1 [.slice (some ⟨w7.heap.size, 0, none⟩) 1 1] rfl (lit_own w7 _ _) (some fad) fn fc us rfl (by have h8 := HAl.out.1; have h9 := HM7.out.len; omega) (HSl.out.old (Old.of_below (two_below w7 _ _))) HAl.out.one (by omega) (by omega) (by simp <;> omega) ?_; intro A8 c8 w8 hown hgr hob; have hb := two_grown hgr; have HB8 := Lib.hid (HB7.out.trans (hb.mono HB7.out.size)); have HK8 := Lib.hid (HK7.out.below hb); have HA8 := Lib.hid (HA7.out.below hb); have HY8 := Lib.hid (HY7.out.below hb); have HG8 := Lib.hid (cons_r2 HXi.out hown hgr (HAl.out.old (Old.of_below hb)) hn12); clear hown hgr hob hb) | (go_at_call 25; refine (sameInts_c _ _ bA cA bn bc cn cc _ _ w9 HY9.out HZ9.out).mono ?_; rintro e w10 ⟨rfl, hb⟩; have HB10 := Lib.hid (HB9.out.trans (hb.mono HB9.out.size)); have HA10 := Lib.hid (HA9.out.below hb); have HY10 := Lib.hid (HY9.out.below hb); clear hb))
    have HKw := Lib.hid HA10.out
    have HSw := Lib.hid HY10.out
    have HBw := Lib.hid HB10.out
    generalize hww : w10 = ww at *
    clear hww
    go_loopw [18] (fun s18 wr => ∃ i : Nat, i ≤ an ∧ s18 = .int .i64 i ∧ Below ww.heap.size ww wr) (fun s18 _ => an - (intOf s18).toNat)
    case atStart => exact ⟨0, Nat.zero_le _, rfl, Below.refl _ _⟩
    case round =>
      obtain ⟨i, hi, rfl, hq⟩ := hrel
      obtain ⟨wo, rfl⟩ : ∃ wo : World, wo = wr := ⟨_, rfl⟩
      have HQ := Lib.hid hq
      clear hq
      by_cases hlt : i < an
      · obtain ⟨ad, y, rfl, _, hy, hwy, hcy⟩ := (HKw.out.below HQ.out).at_ hlt
        have HY := Lib.hid hy
        have HCy := Lib.hid hcy
        clear hy hwy hcy
        go_wp2
        have hfi : (false = true ↔ y ∈ (litsF b 0).take 0) := by simp
        go_loopw [19, 20] (fun sf sk w5 => ∃ (k : Nat) (fb : Bool), k ≤ bn ∧ sk = .int .i64 k ∧ sf = .bool fb ∧ Below wo.heap.size wo w5 ∧ (fb = true ↔ y ∈ (litsF b 0).take k)) (fun _ sk _ => bn - (intOf sk).toNat)
        case atStart => exact ⟨0, false, Nat.zero_le _, rfl, rfl, Below.refl _ _, hfi⟩
        case round =>
          clear hfi
          obtain ⟨k, fb, hk, rfl, rfl, hq, hfb⟩ := hrel
          have HQ2 := Lib.hid hq
          have HFb := Lib.hid hfb
          have hcy := (HQ2.out.cell (lt_of_cell HCy.out)).trans HCy.out
          clear hq hfb
          by_cases hlk : k < bn
          · obtain ⟨ad2, z, rfl, _, hz, hwz, hcz⟩ := ((HSw.out.below HQ.out).below HQ2.out).at_ hlk
            have HZ := Lib.hid hz
            clear hz hwz
            cases fb
            · by_cases hzy : z = y
              · subst hzy
                go_wp2
                go_quiet (fail)
                go_wp2
                go_roundw
                case rel => exact ⟨k + 1, true, by omega, by go_num, rfl, below_drew HQ2.out _, by rw [take_snoc_of HZ.out]; simp⟩
                case measure => simp [intOf]; omega
              · have b1 : (z == y) = false := by simp [hzy]
                have HZn := Lib.hid hzy
                clear hzy
                go_wp2
                go_quiet (fail)
                go_wp2
                go_roundw
                case rel =>
                  refine ⟨k + 1, false, by omega, by go_num, rfl, below_drew HQ2.out _, ?_⟩
                  rw [take_snoc_of HZ.out, List.mem_append, List.mem_singleton, ← HFb.out]
                  constructor
                  · intro h; cases h
                  · rintro (h | h)
                    · exact h
                    · exact absurd h.symm HZn.out
                case measure => simp [intOf]; omega
            · go_wp2
              go_quiet (fail)
              go_wp2
              go_roundw
              case rel => exact ⟨k + 1, true, by omega, by go_num, rfl, below_drew HQ2.out _, by rw [take_snoc_of HZ.out]; simp [HFb.out.1 (by trivial)]⟩
              case measure => simp [intOf]; omega
          · obtain rfl : k = bn := by omega
            have hfin := HFb.out
            rw [List.take_of_length_le (by have := HSw.out.len; omega)] at hfin
            obtain rfl : fb = true := hfin.2 (HIn.out y (List.mem_of_getElem? HY.out))
            clear hfin
            go_wp2
            go_roundw
            case rel => exact ⟨i + 1, by omega, by go_num, HQ.out.trans (HQ2.out.mono HQ.out.size)⟩
            case measure => simp [intOf]; omega
      · go_wp2
        go_ret
        exact ⟨rfl, HBw.out.trans (HQ.out.mono HBw.out.size)⟩

theorem monotone_holds : Rows.ClausePropagationIsMonotoneSaid :=
  OpenClaim.holds_of_wide 11 Try.f11 rfl rfl rfl rfl rfl rfl rfl ⟨rfl, rfl, rfl, rfl, rfl⟩ rfl rfl rfl rfl rfl (by kernel_rfl) Try.func11 (by kernel_rfl)
    (of_decide_eq_true (by kernel_rfl)) (by unfold Func.isWrapper; rw [if_neg (of_decide_eq_false (by kernel_rfl))]; exact ⟨rfl, rfl⟩)
    (fun os started H enc _ => law_lifted (s := Rows.clausePropagationIsMonotoneSpec) (ts := [22, 32, 3]) os started (by kernel_rfl) Try.func11 (by rw [Try.params11]) (by kernel_rfl) rfl
      (fun ds hd => by
        match ds, hd with
        | [d0, d1, d2], _ => rfl)
      (by intro t ht; simp only [List.mem_cons, List.not_mem_nil, or_false] at ht; rcases ht with rfl | rfl | rfl <;> exact ⟨by kernel_rfl, of_decide_eq_true (by kernel_rfl)⟩)
      (ChangeSpec.witness6 (enc := enc) (C := Try.checked) false ⟨#[], #[.slice none 0 0, .slice none 0 0, .int .i64 0], []⟩ 8 (by kernel_rfl) (by kernel_rfl) (by kernel_rfl) (by kernel_rfl))
      (fun W args hok => by
        match hargs : args.toList, hok with
        | [v0, v1, v2], ⟨h0, h1, h2, _⟩ =>
          obtain ⟨A0, n0, c0, f0, rfl, r0⟩ := h0.1 rfl
          obtain ⟨A1, n1, c1, f1, rfl, r1⟩ := h1.2.1 rfl
          obtain ⟨x2, rfl, r2⟩ := h2.2.2.2.1 rfl
          have : args = #[.slice A0 n0 c0, .slice A1 n1 c1, .int .i64 x2] := by cases args; simp_all
          rw [this]
          exact law11_walk A0 n0 c0 f0 A1 n1 c1 f1 x2 W r0 r1 r2))

#print axioms monotone_holds
end Go.Proofs.Ytekbkdbmkjdgbaa
