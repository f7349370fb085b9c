/- Walks: Project. -/
import Derived.Test.YtjienelkjpodkaaL12
namespace Go.Proofs.Ytjienelkjpodkaa
open Go.RowKit

def PrjPost (w : World) (V : Int × Int × Bool) (e : Ending) (w' : World) : Prop := e = .returned (.tuple #[.int .i64 V.1, .int .i64 V.2.1, .bool V.2.2]) ∧ Below w.heap.size w w'
theorem results_three {P : Program} {fn : Func} {t t2 t3 : Tmp} (h : fn.results = #[.tmp t, .tmp t2, .tmp t3]) (tmps : Array Value) (w : World) : (results fn tmps).run P w = .ok (.tuple #[tmps.getD t undef, tmps.getD t2 undef, tmps.getD t3 undef]) w := by
  simp [results, h]

set_option maxRecDepth 100000 in
set_option maxHeartbeats 4000000 in
/-- 'Project'. -/
theorem project_c (K : Nat → Prop) (A B : Option Addr) (n c m d : Nat) (s : Sys) (x : Int) (w : World) (h : R1 w K A n c s.1) (h' : RR w K B m d s.2) (hx : I64 x) :
    Calls Try.prog 18 #[.agg #[.slice A n c, .slice B m d], .int .i64 x] w (PrjPost w (projectF s x)) := by
  have hln := h.len
  have hlm := h'.len
  have hc1 := h.cap
  have hc2 := h'.cap
  have hbig := h.big
  have H1 := Lib.hid h
  have H2 := Lib.hid h'
  have HX := Lib.hid hx
  have HV := Lib.hid (fun W (hb : Below w.heap.size w W) => valid_c K K A B n c m d s.1 s.2 W (h.below hb) (h'.below hb))
  have HB0 := Lib.hid (show Below w.heap.size w (w.alloc (.cells #[.slice A n c, .slice B m d] 25)) from (Below.refl _ _).alloc (Nat.le_refl _) _)
  have HK0 := Lib.hid (Blk.new w 25 #[.slice A n c, .slice B m d])
  clear h h' hx
  go_enter Try.func18, Try.ntmps18
  go_wp2_with fail
  by_cases hv : validS s = true
  · have HVt := Lib.hid hv
    have HSy := Lib.hid (valid_ok hv)
    have hn12 : n ≤ 12 := by have := HSy.out.n12; omega
    have hm24 : m ≤ 24 := by have := HSy.out.m24; omega
    clear hv
    by_cases h0 : x < 0
    · have d0 : decide (x < 0) = true := decide_eq_true h0
      have HR := Lib.hid (show projectF s x = (0, 0, false) by unfold projectF; rw [HVt.out, show decide (0 ≤ x) = false by simp; omega]; rfl)
      go_wp2_with (first
        | (go_at_call 11
           refine (HV.out _ HB0.out).mono ?_
           rw [HVt.out]
           rintro e w1 ⟨rfl, hb1⟩
           have HB1 := Lib.hid (HB0.out.trans (hb1.mono HB0.out.size))
           clear hb1))
      refine bodyPost_ret (results_three rfl _ _) rfl ?_
      rw [HR.out]
      exact ⟨rfl, HB1.out⟩
    · have d0 : decide (x < 0) = false := decide_eq_false h0
      obtain ⟨xn, rfl⟩ := Int.eq_ofNat_of_zero_le (Int.not_lt.1 h0)
      by_cases hxn : xn < n
      · have d1 : decide ((n : Int) ≤ xn) = false := by simp; omega
        have d1n : decide (n ≤ xn) = false := by simp; omega
        have hxn' : (xn : Int) < n := by omega
        have HR := Lib.hid (show projectF s xn = projFrom s xn (List.range (s.1.getD xn 0 + 1).toNat) (0, 0, false) by
          unfold projectF
          rw [HVt.out, show decide ((0 : Int) ≤ xn) = true by simp, show decide ((xn : Int) < s.1.length) = true by simp; omega]
          simp)
        generalize projectF s xn = V at *
        have ht := getD_bet HSy.out.top (k := xn) (by omega)
        obtain ⟨N, hN⟩ : ∃ N : Nat, (N : Int) = s.1.getD xn 0 + 1 := ⟨(s.1.getD xn 0 + 1).toNat, by omega⟩
        have HN := Lib.hid hN
        have HR2 := Lib.hid (show projFrom s xn ((List.range N).drop 0) (0, 0, false) = V by rw [HR.out, ← HN.out]; rfl)
        clear h0 hN HR
        obtain ⟨tv, htv⟩ : ∃ tv, tv = s.1.getD xn 0 := ⟨_, rfl⟩
        rw [← htv] at ht
        have Htv := Lib.hid htv
        clear htv
        go_wp2_with (first
          | (go_at_call 11
             refine (HV.out _ HB0.out).mono ?_
             rw [HVt.out]
             rintro e w1 ⟨rfl, hb1⟩
             have HB1 := Lib.hid (HB0.out.trans (hb1.mono HB0.out.size))
             have hk1 := HK0.out.old hb1
             have c0 := hk1.cell 0
             have c1 := hk1.cell 1
             have HK1 := Lib.hid hk1
             clear hb1 hk1
             obtain ⟨ad, t, rfl, _, ht', hti, hct⟩ := (H1.out.below HB1.out).at_ hxn
             have htt : t = tv := by rw [Htv.out, List.getD_eq_getElem?_getD, ht']; rfl
             subst htt
             clear ht' hti))
        have HN' := Lib.hid (show (N : Int) = t + 1 by rw [HN.out, ← Htv.out])
        have HSI := Lib.hid (show ∀ y ∈ s.1, I64 y from H1.out.wf)
        go_loopw [7, 8, 9, 34] (fun s7 s8 s9 s34 wr => ∃ (v : Nat) (lo hi : Int) (fd : Bool), v ≤ N ∧ s34 = .int .i64 v ∧ s7 = .int .i64 lo ∧ s8 = .int .i64 hi ∧ s9 = .bool fd ∧ Hid (projFrom s xn ((List.range N).drop v) (lo, hi, fd) = V) ∧ Below w.heap.size w wr ∧ Blk wr w.heap.size 25 #[.slice (some ad) n c, .slice B m d]) (fun _ _ _ s34 _ => N - (intOf s34).toNat)
        case atStart => exact ⟨0, 0, 0, false, Nat.zero_le _, rfl, rfl, rfl, rfl, HR2, HB1.out, HK1.out⟩
        case round =>
          clear HR2 c0 c1 hct
          obtain ⟨v, lo, hi, fd, hv, rfl, rfl, rfl, rfl, HRR, hb, hk⟩ := hrel
          obtain ⟨wo, rfl⟩ : ∃ wo : World, wo = wr := ⟨_, rfl⟩
          have HB := Lib.hid hb
          have HK := Lib.hid hk
          clear hb hk
          by_cases hlt : v < N
          · have hvt : (v : Int) < t + 1 := by have := HN'.out; omega
            have hv64 : (v : Int) ≤ 64 := by omega
            go_upto_region 7 with fail
            clear hvt
            refine region_inv (by kernel_rfl) (by decide +kernel) (CopyInv w wo w.heap.size (some ad) n c s.1 B m d s.2) ?_ ?_ ?_
            · refine ⟨fun _ _ _ => rfl, (Below.refl _ _).drew, ?_, ?_, ?_, ?_, ?_, ?_, ?_, ?_, ?_, ?_⟩ <;> intro h <;> cases h
            · intro D F W i o hi ho hDi haf
              have hlt : i < 9 := (Array.getElem?_eq_some_iff.1 ho).1
              have hi' : i = 0 ∨ i = 1 ∨ i = 2 ∨ i = 3 ∨ i = 4 ∨ i = 5 ∨ i = 6 ∨ i = 7 ∨ i = 8 := by omega
              have o2 := hi.out 2 (by decide) (by decide)
              have hkw := HK.out.old hi.below
              have k0 : W.cell? ⟨w.heap.size, 0, none⟩ = some (.slice (some ad) n c) := hkw.cell 0
              have k1 : W.cell? ⟨w.heap.size, 1, none⟩ = some (.slice B m d) := hkw.cell 1
              have hbw := HB.out.trans (hi.below.mono HB.out.size)
              have sz : ∀ t, t < 90 → t < 90 := fun _ h => h
              rcases hi' with rfl | rfl | rfl | rfl | rfl | rfl | rfl | rfl | rfl
              · cases ho
                refine inv_value 37 rfl rfl rfl (v := pt w.heap.size) (w' := W) (fun ρ hρ => ?_) ?_
                · have e2 : ρ (.tmp 2) = pt w.heap.size := hρ.none_ (sz 2 (by decide)) o2
                  go_simp
                · exact ⟨fun k h1 h2 => by simp [show k ≠ 37 by omega, hi.out k h1 h2], hi.below, fun _ => by simp, by first | (simp; done) | simpa using hi.v38, by first | (simp; done) | simpa using hi.v39, by first | (simp; done) | simpa using hi.v40, by first | (simp; done) | simpa using hi.v41, by first | (simp; done) | simpa using hi.v42, by first | (simp; done) | simpa using hi.v43, by first | (simp; done) | simpa using hi.v11, by first | (simp; done) | simpa using hi.i6, by first | (simp; done) | simpa using hi.i8⟩
              · cases ho
                simp [Region.binds] at haf
                refine inv_value 38 rfl rfl rfl (v := .slice (some ad) n c) (w' := W) (fun ρ hρ => ?_) ?_
                · have e37 : ρ (.tmp 37) = pt w.heap.size := hρ.some_ (sz 37 (by decide)) (hi.v37 haf)
                  go_simp
                · exact ⟨fun k h1 h2 => by simp [show k ≠ 38 by omega, hi.out k h1 h2], hi.below, by first | (simp; done) | simpa using hi.v37, fun _ => by simp, by first | (simp; done) | simpa using hi.v39, by first | (simp; done) | simpa using hi.v40, by first | (simp; done) | simpa using hi.v41, by first | (simp; done) | simpa using hi.v42, by first | (simp; done) | simpa using hi.v43, by first | (simp; done) | simpa using hi.v11, by first | (simp; done) | simpa using hi.i6, by first | (simp; done) | simpa using hi.i8⟩
              · cases ho
                simp [Region.binds] at haf
                refine inv_call 39 31 #[.slice (some ad) n c] rfl rfl rfl (fun ρ hρ => ?_) ?_
                · have e38 : ρ (.tmp 38) = .slice (some ad) n c := hρ.some_ (sz 38 (by decide)) (hi.v38 haf)
                  have ef := hρ.func 31
                  go_simp
                · refine (clone1_c K (some ad) n c s.1 W (H1.out.below hbw) (by omega)).mono ?_
                  rintro e w' ⟨A', n', c', rfl, hO, hb⟩
                  have hn' : n' = n := by have := hO.len; simp at this; omega
                  subst hn'
                  have h6 : D 6 = true → False := fun e => by have := (hi.i6 e).1; rw [hDi] at this; cases this
                  have hO' := hO.base_ (b' := wo.heap.size) hi.below.size
                  exact ⟨_, rfl, ⟨fun k h1 h2 => by simp [show k ≠ 39 by omega, hi.out k h1 h2], hi.below.trans (hb.mono hi.below.size), by first | (simp; done) | simpa using hi.v37, by first | (simp; done) | simpa using hi.v38, fun _ => ⟨A', c', by simp, hO'⟩, by first | (simp; done) | simpa using hi.v40, by first | (simp; done) | simpa using hi.v41, fun e => by obtain ⟨B', d', us, r1, r2, r3⟩ := hi.v42 (by simpa using e); exact ⟨B', d', us, by simpa using r1, r2.below hb, r3.old (Old.of_below hb)⟩, fun e => (h6 (by simpa using e)).elim, fun e => by obtain ⟨g, old, r1, r2, r3, r4, r5⟩ := hi.v11 (by simpa using e); exact ⟨g, old, by simpa using r1, r2, r3.old hb, r4, fun e8 => (h6 (hi.i8 (by simpa using e8)).1).elim⟩, fun e => (h6 (by simpa using e)).elim, by first | (simp; done) | simpa using hi.i8⟩⟩
              · cases ho
                refine inv_value 40 rfl rfl rfl (v := .pointer (some ⟨w.heap.size, 1, none⟩)) (w' := W) (fun ρ hρ => ?_) ?_
                · have e2 : ρ (.tmp 2) = pt w.heap.size := hρ.none_ (sz 2 (by decide)) o2
                  go_simp
                · exact ⟨fun k h1 h2 => by simp [show k ≠ 40 by omega, hi.out k h1 h2], hi.below, by first | (simp; done) | simpa using hi.v37, by first | (simp; done) | simpa using hi.v38, by first | (simp; done) | simpa using hi.v39, fun _ => by simp, by first | (simp; done) | simpa using hi.v41, by first | (simp; done) | simpa using hi.v42, by first | (simp; done) | simpa using hi.v43, by first | (simp; done) | simpa using hi.v11, by first | (simp; done) | simpa using hi.i6, by first | (simp; done) | simpa using hi.i8⟩
              · cases ho
                simp [Region.binds] at haf
                refine inv_value 41 rfl rfl rfl (v := .slice B m d) (w' := W) (fun ρ hρ => ?_) ?_
                · have e40 : ρ (.tmp 40) = .pointer (some ⟨w.heap.size, 1, none⟩) := hρ.some_ (sz 40 (by decide)) (hi.v40 haf)
                  go_simp
                · exact ⟨fun k h1 h2 => by simp [show k ≠ 41 by omega, hi.out k h1 h2], hi.below, by first | (simp; done) | simpa using hi.v37, by first | (simp; done) | simpa using hi.v38, by first | (simp; done) | simpa using hi.v39, by first | (simp; done) | simpa using hi.v40, fun _ => by simp, by first | (simp; done) | simpa using hi.v42, by first | (simp; done) | simpa using hi.v43, by first | (simp; done) | simpa using hi.v11, by first | (simp; done) | simpa using hi.i6, by first | (simp; done) | simpa using hi.i8⟩
              · cases ho
                simp [Region.binds] at haf
                refine inv_call 42 28 #[.slice B m d] rfl rfl rfl (fun ρ hρ => ?_) ?_
                · have e41 : ρ (.tmp 41) = .slice B m d := hρ.some_ (sz 41 (by decide)) (hi.v41 haf.1)
                  have ef := hρ.func 28
                  go_simp
                · refine (cloneR_c (fun k => k < w.heap.size) B m d s.2 W ((H2.out.weak fun k hk _ => hk).below hbw) (by omega)).mono ?_
                  rintro e w' ⟨B', m', d', us, rfl, hO, hA, hb⟩
                  have hm' : m' = m := by have := hO.len; have := hA.1; omega
                  subst hm'
                  have h6 : D 6 = true → False := fun e => by have := (hi.i6 e).2; rw [hDi] at this; cases this
                  have hO' := hO.base (b' := wo.heap.size) hi.below.size
                  exact ⟨_, rfl, ⟨fun k h1 h2 => by simp [show k ≠ 42 by omega, hi.out k h1 h2], hi.below.trans (hb.mono hi.below.size), by first | (simp; done) | simpa using hi.v37, by first | (simp; done) | simpa using hi.v38, fun e => by obtain ⟨A', c', r1, r2⟩ := hi.v39 (by simpa using e); exact ⟨A', c', by simpa using r1, r2.below hb⟩, by first | (simp; done) | simpa using hi.v40, by first | (simp; done) | simpa using hi.v41, fun _ => ⟨B', d', us, by simp, hO', hA⟩, fun e => (h6 (by simpa using e)).elim, fun e => by obtain ⟨g, old, r1, r2, r3, r4, r5⟩ := hi.v11 (by simpa using e); exact ⟨g, old, by simpa using r1, r2, r3.old hb, r4, fun e8 => (h6 (hi.i8 (by simpa using e8)).1).elim⟩, fun e => (h6 (by simpa using e)).elim, by first | (simp; done) | simpa using hi.i8⟩⟩
              · cases ho
                simp [Region.binds] at haf
                obtain ⟨A', c', f39, hO39⟩ := hi.v39 haf.1
                obtain ⟨B', d', us, f42, hO42, hA42⟩ := hi.v42 haf.2
                have h8 : D 8 = true → False := fun e => by have := (hi.i8 e).1; rw [hDi] at this; cases this
                refine inv_value 43 rfl rfl rfl (v := .agg #[.slice A' n c', .slice B' m d']) (w' := W) (fun ρ hρ => ?_) ?_
                · have e39 : ρ (.tmp 39) = .slice A' n c' := hρ.some_ (sz 39 (by decide)) f39
                  have e42 : ρ (.tmp 42) = .slice B' m d' := hρ.some_ (sz 42 (by decide)) f42
                  go_simp
                · exact ⟨fun k h1 h2 => by simp [show k ≠ 43 by omega, hi.out k h1 h2], hi.below, by first | (simp; done) | simpa using hi.v37, by first | (simp; done) | simpa using hi.v38, by first | (simp; done) | simpa using hi.v39, by first | (simp; done) | simpa using hi.v40, by first | (simp; done) | simpa using hi.v41, by first | (simp; done) | simpa using hi.v42, fun _ => ⟨_, _, by simpa using f39, by simpa using f42, by simp⟩, fun e => by obtain ⟨g, old, r1, r2, r3, r4, r5⟩ := hi.v11 (by simpa using e); exact ⟨g, old, by simpa using r1, r2, r3, r4, fun e8 => (h8 (by simpa using e8)).elim⟩, fun _ => ⟨by simpa using haf.1, by simpa using haf.2⟩, fun e => (h8 (by simpa using e)).elim⟩
              · cases ho
                have h8 : D 8 = true → False := fun e => by have := (hi.i8 e).2; rw [hDi] at this; cases this
                refine inv_value 11 rfl rfl rfl (v := pt W.heap.size) (w' := W.alloc (.cells #[.slice none 0 0, .slice none 0 0] 25)) (fun ρ hρ => run_alloc25 rfl W) ?_
                have hbA : Below W.heap.size W (W.alloc (.cells #[.slice none 0 0, .slice none 0 0] 25)) := (Below.refl _ _).alloc (Nat.le_refl _) _
                exact ⟨fun k h1 h2 => by simp [h1, hi.out k h1 h2], hi.below.trans (hbA.mono hi.below.size), by first | (simp; done) | simpa using hi.v37, by first | (simp; done) | simpa using hi.v38, fun e => by obtain ⟨A', c', r1, r2⟩ := hi.v39 (by simpa using e); exact ⟨A', c', by simpa using r1, r2.below hbA⟩, by first | (simp; done) | simpa using hi.v40, by first | (simp; done) | simpa using hi.v41, fun e => by obtain ⟨B', d', us, r1, r2, r3⟩ := hi.v42 (by simpa using e); exact ⟨B', d', us, by simpa using r1, r2.below hbA, r3.old (Old.of_below hbA)⟩, by first | (simp; done) | simpa using hi.v43, fun _ => ⟨_, _, by simp, hi.below.size, Blk.new _ _ _, rfl, fun e8 => (h8 (by simpa using e8)).elim⟩, by first | (simp; done) | simpa using hi.i6, fun e => (h8 (by simpa using e)).elim⟩
              · cases ho
                simp [Region.binds] at haf
                have h6 : D 6 = true := by simp_all
                have h7 : D 7 = true := by simp_all
                obtain ⟨a, b, f39, f42, f43⟩ := hi.v43 h6
                obtain ⟨g, old, f11, hg, hk, hold, _⟩ := hi.v11 h7
                have hone : (#[a, b] : Array Value).all (·.oneCell') = true := by
                  obtain ⟨A', c', r1, _⟩ := hi.v39 (hi.i6 h6).1
                  obtain ⟨B', d', us, r2, _⟩ := hi.v42 (hi.i6 h6).2
                  rw [f39] at r1
                  rw [f42] at r2
                  cases r1; cases r2
                  simp [Value.oneCell']
                refine inv_store rfl rfl 25 (.tmp 11) (.tmp 43) rfl rfl g #[a, b] old 25 (fun ρ hρ => hρ.some_ (sz 11 (by decide)) f11) (fun ρ hρ => hρ.some_ (sz 43 (by decide)) f43) hk size25 hold hone ?_
                intro w' hk' ho'
                exact ⟨hi.out, below_only hi.below ho' hg, by first | (simp; done) | simpa using hi.v37, by first | (simp; done) | simpa using hi.v38, fun e => by obtain ⟨A', c', r1, r2⟩ := hi.v39 (by simpa using e); exact ⟨A', c', r1, OwnS.only (s := 1) r2 ho' (ownS_ne_blk (s := 1) r2 hk (by decide))⟩, by first | (simp; done) | simpa using hi.v40, by first | (simp; done) | simpa using hi.v41, fun e => by obtain ⟨B', d', us, r1, r2, r3⟩ := hi.v42 (by simpa using e); exact ⟨B', d', us, r1, r2.only ho' (ownS_ne_blk r2 hk (by decide)), r3.old fun k (hk : k < w.heap.size) _ => ho'.block k (by have := HB.out.size; omega)⟩, by first | (simp; done) | simpa using hi.v43, fun _ => ⟨g, _, f11, hg, hk', rfl, fun _ => f43⟩, by first | (simp; done) | simpa using hi.i6, fun _ => ⟨by simpa using h6, by simpa using h7⟩⟩
            · intro D F W hD hi
              have hall : ∀ k, k < 9 → D k = true := hD
              obtain ⟨A', c', f39, hO39⟩ := hi.v39 (hall 2 (by decide))
              obtain ⟨B', d', us, f42, hO42, hA42⟩ := hi.v42 (hall 5 (by decide))
              obtain ⟨a, b, t39, t42, f43⟩ := hi.v43 (hall 6 (by decide))
              obtain ⟨g, old, f11, hg, hk, hold, h8⟩ := hi.v11 (hall 7 (by decide))
              have t43 := h8 (hall 8 (by decide))
              rw [f39] at t39
              rw [f42] at t42
              rw [f43] at t43
              cases t39
              cases t42
              cases t43
              have f37 := hi.v37 (hall 0 (by decide))
              have f38 := hi.v38 (hall 1 (by decide))
              have f40 := hi.v40 (hall 3 (by decide))
              have f41 := hi.v41 (hall 4 (by decide))
              have hF : F = fun k => if k = 37 then some (pt w.heap.size) else if k = 38 then some (.slice (some ad) n c) else if k = 39 then some (.slice A' n c') else if k = 40 then some (.pointer (some ⟨w.heap.size, 1, none⟩)) else if k = 41 then some (.slice B m d) else if k = 42 then some (.slice B' m d') else if k = 43 then some (.agg #[.slice A' n c', .slice B' m d']) else if k = 11 then some (pt g) else none := by
                funext k
                by_cases e1 : k = 37
                · subst e1; simpa using f37
                by_cases e2 : k = 38
                · subst e2; simpa using f38
                by_cases e3 : k = 39
                · subst e3; simpa using f39
                by_cases e4 : k = 40
                · subst e4; simpa using f40
                by_cases e5 : k = 41
                · subst e5; simpa using f41
                by_cases e6 : k = 42
                · subst e6; simpa using f42
                by_cases e7 : k = 43
                · subst e7; simpa using f43
                by_cases e8 : k = 11
                · subst e8; simpa using f11
                simp [e1, e2, e3, e4, e5, e6, e7, e8]
                exact hi.out k e8 (by omega)
              rw [hF, ← puts_put, ← puts_put, ← puts_put, ← puts_put, ← puts_put, ← puts_put, ← puts_put, ← puts_put, puts_none]
              have HB3 := Lib.hid (HB.out.trans (hi.below.mono HB.out.size))
              have HK3 := Lib.hid (HK.out.old hi.below)
              have HO39 := Lib.hid (hO39.base_ (b' := w.heap.size) HB.out.size)
              have HO42 := Lib.hid (hO42.base (b' := w.heap.size) HB.out.size)
              have HA42 := Lib.hid hA42
              have HKg := Lib.hid hk
              have Hgw := Lib.hid (show wo.heap.size ≤ g from hg)
              have Hwo := Lib.hid HB.out.size
              clear hF f37 f38 f39 f40 f41 f42 f43 f11 hO39 hO42 hA42 hk hold h8 hall hi hD hg
              obtain ⟨w3, rfl⟩ : ∃ w3 : World, w3 = W := ⟨_, rfl⟩
              simp only [Act.put, pt, List.setIfInBounds_toArray, List.set_cons_succ, List.set_cons_zero]
              obtain ⟨q, rfl⟩ : ∃ q, A' = some ⟨q, 0, none⟩ := OwnS.addr (s := 1) HO39.out (by omega)
              have g0 : w3.cell? ⟨g, 0, none⟩ = some (.slice (some ⟨q, 0, none⟩) n c') := HKg.out.cell 0
              have g1 : w3.cell? ⟨g, 1, none⟩ = some (.slice B' m d') := HKg.out.cell 1
              obtain ⟨_, tq, e1, _, _, _, cq⟩ := (HO39.out.r1 (K := fun _ => True) (fun _ _ => trivial) (by omega) HSI.out).at_ hxn
              cases e1
              have fq := OwnS.frozen (s := 1) HO39.out xn
              have hqg : ¬ g = q := fun e => ownS_ne_blk (s := 1) HO39.out HKg.out (by decide) (by rw [e]; rfl)
              simp only [Addr.add_mid, Nat.zero_add] at cq
              have ho4 : Only q w3 (w3.setCell ⟨q, xn, none⟩ (.int .i64 0)) := Only.setCell _ _ _ _
              have hq4 := (HO39.out.lt q rfl)
              have HP0 := Lib.hid (show Prj2 w w.heap.size g q B' #[.slice (some ad) n c, .slice B m d] n c' (s.1.set xn 0) m d' s.2 (fixS s xn v).2 0 us (w3.setCell ⟨q, xn, none⟩ (.int .i64 0)) from
                ⟨HK3.out.only ho4 (fun e => ownS_ne_blk (s := 1) HO39.out HK3.out (by decide) (by rw [e]; rfl)), HKg.out.only ho4 hqg, by rw [List.map_set]; exact OwnS.stored (s := 1) HO39.out xn (.int .i64 0),
                  HO42.out.only ho4 (fun e => ownS_ne_ownS (s' := 1) HO42.out HO39.out (by decide) q e rfl), by simpa using HA42.out.old (fun k (hk : k < w.heap.size) _ => ho4.block k (by omega)), below_only HB3.out ho4 hq4.1⟩)
              clear ho4 hq4
              go_wp2_with fail
              clear g0 g1 cq fq
              have Hqg := Lib.hid hqg
              clear hqg
              go_loopw [51] (fun s51 wr => ∃ (j : Nat) (us' : List Value), j ≤ m ∧ s51 = .int .i64 j ∧ Prj2 w w.heap.size g q B' #[.slice (some ad) n c, .slice B m d] n c' (s.1.set xn 0) m d' s.2 (fixS s xn v).2 j us' wr) (fun s51 _ => m - (intOf s51).toNat)
              case atStart => exact ⟨0, us, Nat.zero_le _, rfl, HP0.out⟩
              case round =>
                clear HP0
                obtain ⟨j, us', hj, rfl, hp⟩ := hrel
                obtain ⟨wx, rfl⟩ : ∃ wx : World, wx = wr := ⟨_, rfl⟩
                have HP := Lib.hid hp
                by_cases hjm : j < m
                · have hbn := HB.out.size
                  obtain ⟨qb, rfl⟩ := hp.rows.addr (by omega)
                  have hfl : (fixS s xn v).2.length = s.2.length := by simp [fixS]
                  have hr0 : s.2[j]? = some s.2[j] := List.getElem?_eq_getElem (by omega)
                  obtain ⟨r0, hr0'⟩ : ∃ r0, r0 = s.2[j] := ⟨_, rfl⟩
                  rw [← hr0'] at hr0
                  obtain ⟨_, _, h1, h2, A2, n2, c2, rfl, rfl, hR1, hI⟩ := hp.rin.2 j r0 (by rw [getElem_take_drop hfl (by omega)]; exact hr0)
                  have k1 := World.ownsRow.cells hp.rows (g := qb) rfl _ _ h1
                  have k2 := World.ownsRow.cells hp.rows (g := qb) rfl _ _ h2
                  rw [Addr.add_mid, Nat.zero_add] at k1 k2
                  have HC1 := Lib.hid k1
                  have HC2 := Lib.hid (show wx.cell? ((⟨qb, j * 2, none⟩ : Addr).add 1) = some (.int .i64 r0.2) by rw [Addr.add_mid]; exact k2)
                  have hrr := HSy.out.rows r0 (List.mem_of_getElem? hr0)
                  have hln2 : n2 = n := by have := hR1.len; have := hrr.1; omega
                  obtain ⟨ad2, a, rfl, _, ha, hai, hca⟩ := hR1.at_ (k := xn) (by omega)
                  have hga : r0.1.getD xn 0 = a := by rw [List.getD_eq_getElem?_getD, ha]; rfl
                  have hb1 := bet_iff.1 (all_mem hrr.2.1 ha)
                  have hmb : -64000 ≤ a * (v : Int) ∧ a * (v : Int) ≤ 64000 := mul_bounds (a := a) (b := v) (p := 1000) (q := 64) hb1 (by omega) (by omega) (by omega)
                  have hcb := hrr.2.2
                  have hbX : Below wx.heap.size wx (wx.alloc (.cells #[.slice (some ad2) n2 c2, .int .i64 r0.2] 37)) := (Below.refl _ _).alloc (Nat.le_refl _) _
                  have hca' := cell_below hbX hca
                  have g1 : (wx.alloc (.cells #[.slice (some ad2) n2 c2, .int .i64 r0.2] 37)).cell? ⟨g, 1, none⟩ = some (.slice (some ⟨qb, 0, none⟩) m d') := (hp.blk.old hbX).cell 1
                  have HBX := Lib.hid hbX
                  have HRI := Lib.hid (show RowIn (wx.alloc (.cells #[.slice (some ad2) n2 c2, .int .i64 r0.2] 37)).drew (fun k => k < w.heap.size) (.slice (some ad2) n2 c2) (.int .i64 (r0.2 + a * v)) (r0.1, r0.2 + a * v) from
                    ⟨_, _, _, rfl, rfl, hR1.below hbX.drew, by unfold I64; show -9223372036854775808 ≤ r0.2 + a * ↑v ∧ r0.2 + a * ↑v ≤ 9223372036854775807; omega⟩)
                  have HFj := Lib.hid (show (fixS s xn v).2[j]? = some (r0.1, r0.2 + a * v) by simp [fixS, hr0, ha])
                  have HFl := Lib.hid hfl
                  have hxn2 : (xn : Int) < n2 := by omega
                  have Hn2 := Lib.hid hln2
                  have hjm' : (j : Int) < m := by omega
                  clear hp hr0 hr0' h1 h2 hR1 hI k1 k2 hrr hln2 ha hai hca hga hbX hfl
                  go_upto_region 12 with (refine wpList_load_two rfl 37 (.tmp 54) rfl ⟨qb, j * 2, none⟩ (by simp [Act.eval, Addr.add]) _ _ HC1.out HC2.out Try.underlying37 size37 ?_)
                  obtain ⟨w5, hw5⟩ : ∃ w5, w5 = wx.alloc (.cells #[.slice (some ad2) n2 c2, .int .i64 r0.2] 37) := ⟨_, rfl⟩
                  have hk5 : Blk w5 wx.heap.size 37 #[.slice (some ad2) n2 c2, .int .i64 r0.2] := by rw [hw5]; exact Blk.new wx 37 _
                  rw [← hw5] at hca' g1 HBX HRI ⊢
                  clear hw5
                  obtain ⟨wz, hwz⟩ : ∃ wz, wz = w5.drew := ⟨_, rfl⟩
                  have hbz : Below w5.heap.size w5 wz := by rw [hwz]; exact (Below.refl _ _).drew
                  refine wp_region_still_tail 17 (by kernel_rfl) (by kernel_rfl) ?_
                  rw [show ({ heap := w5.heap, tape := w5.tape, drawn := w5.drawn + 1, os := w5.os, output := w5.output } : World) = wz from hwz.symm]
                  simp only [List.take_succ_cons, List.take_zero, List.drop_succ_cons, List.drop_zero]
                  rw [← hwz] at HRI
                  have z1 := cell_below hbz g1
                  have z2 := cell_below hbz hca'
                  have hkz := hk5.old hbz
                  have z3 := hkz.cell 0
                  have z4 := hkz.cell 1
                  have HBZ := Lib.hid (HBX.out.trans (hbz.mono HBX.out.size))
                  clear hwz hbz g1 hca' hkz hk5
                  repeat still_step
                  refine wpStill_nil ?_
                  refine wpList_store_mid rfl 37 (.tmp 72) (.tmp 71) rfl qb (j * 2) #[.slice (some ad2) n2 c2, .int .i64 (r0.2 + a * v)] (by simp [Act.eval, Addr.add]) (by simp [Act.eval]; rw [i64_wrap (a * v) (by omega), i64_wrap _ (by omega)]) (there_two (HP.out.belowed HBZ.out).rows hjm) size37 (by simp [Value.oneCell']) ?_
                  clear z1 z2 z3 z4
                  go_wp2_with fail
                  go_roundw
                  case rel => exact ⟨j + 1, _, by omega, by go_num, (HP.out.belowed HBZ.out).next HFl.out HFj.out HRI.out (Nat.le_refl _) (by have := Hgw.out; omega)⟩
                  case measure => simp [intOf]; omega
                · obtain rfl : m = j := by omega
                  have hfl : (fixS s xn v).2.length = s.2.length := by simp [fixS]
                  have HRt := Lib.hid (hp.top.r1 (K := fun _ => True) (fun _ _ => trivial) (by omega) (fun y hy => by
                    rcases List.mem_or_eq_of_mem_set hy with hy | hy
                    · exact HSI.out y hy
                    · subst hy; exact i64_small (by omega) (by omega)))
                  have HRr := Lib.hid (hp.rows.rr (K := fun _ => True) (fun _ _ => trivial) (by omega) (show AllR wx (fun _ => True) us' (fixS s xn v).2 from by
                    have := hp.rin
                    rw [List.take_of_length_le (by omega), List.drop_eq_nil_of_le (by omega), List.append_nil] at this
                    exact this.weak fun _ _ _ => trivial))
                  have HFx := Lib.hid (fix_ok HVt.out (x := xn) (v := v) (by omega) (by rw [← Htv.out]; have := HN'.out; omega))
                  have HPC := Lib.hid (points_c K (fun _ => True) (some ad) B n c m d s.1 wx (H1.out.below hp.below) HSy.out.top)
                  clear hp hfl
                  have hrd := range_drop hlt
                  have Hrd := Lib.hid hrd
                  clear hrd
                  by_cases hpt : 16384 < pointsF s.1 1
                  · have HRN := Lib.hid (show projFrom s xn ((List.range N).drop (v + 1)) (lo, hi, fd) = V by rw [← HRR.out, Hrd.out, proj_skip (.inl hpt)])
                    have d5 : decide (16384 < pointsF s.1 1) = true := decide_eq_true hpt
                    generalize pointsF s.1 1 = pp at *
                    go_wp2_with (first
                      | (go_at_call 21
                         refine HPC.out.mono ?_
                         rintro e w6 ⟨rfl, hb6⟩
                         have HP6 := Lib.hid (HP.out.belowed hb6)
                         have HB6 := Lib.hid hb6
                         have g60 : w6.cell? ⟨g, 0, none⟩ = some (.slice (some ⟨q, 0, none⟩) n c') := HP6.out.blk.cell 0
                         have g61 : w6.cell? ⟨g, 1, none⟩ = some (.slice B' m d') := HP6.out.blk.cell 1
                         clear hb6)
                      | (refine wpList_load_blk rfl 25 (.tmp 2) rfl w.heap.size rfl 25 #[.slice (some ad) n c, .slice B m d] _ HP.out.box Try.underlying25 rfl size25 ?_))
                    go_roundw
                    case rel => exact ⟨v + 1, lo, hi, fd, by omega, by go_num, rfl, rfl, rfl, HRN, HP6.out.below, HP6.out.box⟩
                    case measure => simp [intOf]; omega
                  · have hpr : prodF s.1 ≤ 16384 := by have := points_prod s.1 1 HSy.out.top (by omega) (by omega) (by simpa using Int.not_lt.1 hpt); omega
                    have Hpr := Lib.hid (show prodF (fixS s xn v).1 ≤ 16384 from Nat.le_trans HFx.out.2 hpr)
                    have d5 : decide (16384 < pointsF s.1 1) = false := decide_eq_false hpt
                    cases hS : (searchF (fixS s xn v)).1.isSome with
                    | false =>
                      have HRN := Lib.hid (show projFrom s xn ((List.range N).drop (v + 1)) (lo, hi, fd) = V by rw [← HRR.out, Hrd.out, proj_skip (.inr hS)])
                      have HS := Lib.hid hS
                      clear hS hpr
                      generalize pointsF s.1 1 = pp at *
                      go_wp2_with (first
                          | (go_at_call 32
                             refine (solvable_c (fun _ => True) (some ⟨q, 0, none⟩) B' n c' m d' (fixS s xn v) w6 (HRt.out.below HB6.out) (HRr.out.below HB6.out) HFx.out.1 Hpr.out).mono ?_
                             rw [HS.out]
                             rintro e w7 ⟨rfl, hb7⟩
                             have HP7 := Lib.hid (HP6.out.belowed hb7)
                             clear hb7)
                          | (go_at_call 21
                             refine HPC.out.mono ?_
                             rintro e w6 ⟨rfl, hb6⟩
                             have HP6 := Lib.hid (HP.out.belowed hb6)
                             have HB6 := Lib.hid hb6
                             have g60 : w6.cell? ⟨g, 0, none⟩ = some (.slice (some ⟨q, 0, none⟩) n c') := HP6.out.blk.cell 0
                             have g61 : w6.cell? ⟨g, 1, none⟩ = some (.slice B' m d') := HP6.out.blk.cell 1
                             clear hb6)
                          | (refine wpList_load_blk rfl 25 (.tmp 2) rfl w.heap.size rfl 25 #[.slice (some ad) n c, .slice B m d] _ HP.out.box Try.underlying25 rfl size25 ?_))
                      go_roundw
                      case rel => exact ⟨v + 1, lo, hi, fd, by omega, by go_num, rfl, rfl, rfl, HRN, HP7.out.below, HP7.out.box⟩
                      case measure => simp [intOf]; omega
                    | true =>
                      have HRN := Lib.hid (show projFrom s xn ((List.range N).drop (v + 1)) (if fd then lo else v, v, true) = V by rw [← HRR.out, Hrd.out, proj_take hpt hS])
                      have HS := Lib.hid hS
                      clear hS hpr
                      generalize pointsF s.1 1 = pp at *
                      cases fd with
                      | false =>
                        go_wp2_with (first
                          | (go_at_call 32
                             refine (solvable_c (fun _ => True) (some ⟨q, 0, none⟩) B' n c' m d' (fixS s xn v) w6 (HRt.out.below HB6.out) (HRr.out.below HB6.out) HFx.out.1 Hpr.out).mono ?_
                             rw [HS.out]
                             rintro e w7 ⟨rfl, hb7⟩
                             have HP7 := Lib.hid (HP6.out.belowed hb7)
                             clear hb7)
                          | (go_at_call 21
                             refine HPC.out.mono ?_
                             rintro e w6 ⟨rfl, hb6⟩
                             have HP6 := Lib.hid (HP.out.belowed hb6)
                             have HB6 := Lib.hid hb6
                             have g60 : w6.cell? ⟨g, 0, none⟩ = some (.slice (some ⟨q, 0, none⟩) n c') := HP6.out.blk.cell 0
                             have g61 : w6.cell? ⟨g, 1, none⟩ = some (.slice B' m d') := HP6.out.blk.cell 1
                             clear hb6)
                          | (refine wpList_load_blk rfl 25 (.tmp 2) rfl w.heap.size rfl 25 #[.slice (some ad) n c, .slice B m d] _ HP.out.box Try.underlying25 rfl size25 ?_))
                        go_roundw
                        case rel => exact ⟨v + 1, v, v, true, by omega, by go_num, rfl, rfl, rfl, HRN, HP7.out.below, HP7.out.box⟩
                        case measure => simp [intOf]; omega
                      | true =>
                        go_wp2_with (first
                          | (go_at_call 32
                             refine (solvable_c (fun _ => True) (some ⟨q, 0, none⟩) B' n c' m d' (fixS s xn v) w6 (HRt.out.below HB6.out) (HRr.out.below HB6.out) HFx.out.1 Hpr.out).mono ?_
                             rw [HS.out]
                             rintro e w7 ⟨rfl, hb7⟩
                             have HP7 := Lib.hid (HP6.out.belowed hb7)
                             clear hb7)
                          | (go_at_call 21
                             refine HPC.out.mono ?_
                             rintro e w6 ⟨rfl, hb6⟩
                             have HP6 := Lib.hid (HP.out.belowed hb6)
                             have HB6 := Lib.hid hb6
                             have g60 : w6.cell? ⟨g, 0, none⟩ = some (.slice (some ⟨q, 0, none⟩) n c') := HP6.out.blk.cell 0
                             have g61 : w6.cell? ⟨g, 1, none⟩ = some (.slice B' m d') := HP6.out.blk.cell 1
                             clear hb6)
                          | (refine wpList_load_blk rfl 25 (.tmp 2) rfl w.heap.size rfl 25 #[.slice (some ad) n c, .slice B m d] _ HP.out.box Try.underlying25 rfl size25 ?_))
                        go_roundw
                        case rel => exact ⟨v + 1, lo, v, true, by omega, by go_num, rfl, rfl, rfl, HRN, HP7.out.below, HP7.out.box⟩
                        case measure => simp [intOf]; omega
          · obtain rfl : N = v := by omega
            have hvt : ¬ (N : Int) < t + 1 := by have := HN'.out; omega
            have hr := HRR.out
            rw [List.drop_eq_nil_of_le (by simp), projFrom] at hr
            have Hr := Lib.hid hr
            clear hr
            go_wp2_with fail
            refine bodyPost_ret (results_three rfl _ _) rfl ?_
            rw [← Hr.out]
            exact ⟨rfl, HB.out⟩
      · have d1 : decide ((n : Int) ≤ xn) = true := by simp; omega
        have HR := Lib.hid (show projectF s xn = (0, 0, false) by unfold projectF; rw [HVt.out, show decide ((xn : Int) < s.1.length) = false by simp; omega]; simp)
        generalize projectF s xn = V at *
        go_wp2_with (first
          | (go_at_call 11
             refine (HV.out _ HB0.out).mono ?_
             rw [HVt.out]
             rintro e w1 ⟨rfl, hb1⟩
             have HB1 := Lib.hid (HB0.out.trans (hb1.mono HB0.out.size))
             have hk1 := HK0.out.old hb1
             have c0 := hk1.cell 0
             have c1 := hk1.cell 1
             have HK1 := Lib.hid hk1
             clear hb1 hk1))
        refine bodyPost_ret (results_three rfl _ _) rfl ?_
        rw [HR.out]
        exact ⟨rfl, HB1.out⟩
  · have hf : validS s = false := by simpa using hv
    have HVt := Lib.hid hf
    have HR := Lib.hid (show projectF s x = (0, 0, false) by unfold projectF; rw [hf]; rfl)
    generalize projectF s x = V at *
    clear hv hf
    go_wp2_with (first
        | (go_at_call 11
           refine (HV.out _ HB0.out).mono ?_
           rw [HVt.out]
           rintro e w1 ⟨rfl, hb1⟩
           have HB1 := Lib.hid (HB0.out.trans (hb1.mono HB0.out.size))
           clear hb1))
    refine bodyPost_ret (results_three rfl _ _) rfl ?_
    rw [HR.out]
    exact ⟨rfl, HB1.out⟩
end Go.Proofs.Ytjienelkjpodkaa
