/- The law ClauseOrder: for every input it gives true and leaves its arguments as they were.
   Conditions: none beyond the row's own (readable arguments within the form's reach). -/
import Derived.Test.YtekbkdbmkjdgbaaW23
import Derived.Test.YtekbkdbmkjdgbaaL5
import Derived.Test.YtekbkdbmkjdgbaaW24
namespace Go.Proofs.Ytekbkdbmkjdgbaa
open Go.ChangeShapes Go.WideShapes Go.ChangeAt Go.RowKit

def dupF (F : List (List Int)) : List (List Int) := F.reverse.flatMap fun c => [c ++ c, c]
theorem dup_step {F : List (List Int)} {k : Nat} {x : List Int} (hx : F[k]? = some x) : dupF (F.drop k) = dupF (F.drop (k + 1)) ++ [x ++ x, x] := by
  rw [drop_cons_of hx, dupF, dupF, List.reverse_cons, List.flatMap_append]
  simp
theorem dup_len : ∀ (F : List (List Int)), (dupF F).length = 2 * F.length
  | [] => rfl
  | c :: F => by
    have := dup_len F
    rw [dupF, List.reverse_cons, List.flatMap_append, List.length_append]
    rw [dupF] at this
    rw [this]
    simp; omega
theorem dup_mem {F : List (List Int)} {c : List Int} : c ∈ dupF F ↔ ∃ x ∈ F, c = x ++ x ∨ c = x := by
  rw [dupF, List.mem_flatMap]
  constructor
  · rintro ⟨x, hx, hc⟩
    exact ⟨x, List.mem_reverse.1 hx, by simpa using hc⟩
  · rintro ⟨x, hx, hc⟩
    exact ⟨x, List.mem_reverse.2 hx, by simpa using hc⟩
theorem satC_app {m : List Bool} {c d : List Int} : satC m (c ++ d) = (satC m c || satC m d) := by
  unfold satC; rw [List.any_append]
theorem made_short {f : List (List Int)} {c : List Int} (h : c ∈ madeF f) : c.length ≤ 4 ∧ c.all (wi 4) = true := by
  obtain ⟨y, _, rfl⟩ := List.mem_map.1 h
  exact ⟨madeC_len y, madeC_wi y⟩
theorem ok4 {c : List Int} (h1 : c.length ≤ 8) (h2 : c.all (wi 4) = true) : okC 4 c = true := by
  rw [okC, h2, decide_eq_true h1]; rfl
/-- the formulas have the same models -/
theorem order_same (f : List (List Int)) (e : List (List Int)) (he : ∀ c ∈ e, ∃ x ∈ madeF f, ∃ y, y.length ≤ 4 ∧ y.all (wi 4) = true ∧ c = x ++ y) (hl : e.length ≤ 1) :
    (solveF (madeF f) 4).1 = (solveF (dupF (madeF f) ++ e) 4).1 ∧ (solveF (madeF f) 4).2.2.1 = (solveF (dupF (madeF f) ++ e) 4).2.2.1 ∧ (solveF (dupF (madeF f) ++ e) 4).2.2.2 = 0 := by
  refine solve_same (madeF_valid f) ?_ fun m => ⟨fun h => ⟨h.1, ?_⟩, fun h => ⟨h.1, ?_⟩⟩
  · simp only [validB, Bool.and_eq_true, decide_eq_true_eq]
    refine ⟨by omega, by omega, by have := madeF_len f; rw [List.length_append, dup_len]; omega, ?_⟩
    rw [List.all_eq_true]
    intro c hc
    rcases List.mem_append.1 hc with hc | hc
    · obtain ⟨x, hx, h | h⟩ := dup_mem.1 hc
      · obtain ⟨h1, h2⟩ := made_short hx
        rw [h]
        exact ok4 (by rw [List.length_append]; omega) (by rw [List.all_append, h2]; rfl)
      · obtain ⟨h1, h2⟩ := made_short hx
        rw [h]
        exact ok4 (by omega) h2
    · obtain ⟨x, hx, y, hy1, hy2, rfl⟩ := he c hc
      obtain ⟨h1, h2⟩ := made_short hx
      exact ok4 (by rw [List.length_append]; omega) (by rw [List.all_append, h2, hy2]; rfl)
  · rw [satF, List.all_eq_true]
    have hs := List.all_eq_true.1 h.2
    intro c hc
    rcases List.mem_append.1 hc with hc | hc
    · obtain ⟨x, hx, h | h⟩ := dup_mem.1 hc
      · rw [h, satC_app, hs x hx]; rfl
      · rw [h]; exact hs x hx
    · obtain ⟨x, hx, y, _, _, rfl⟩ := he c hc
      rw [satC_app, hs x hx]; rfl
  · rw [satF, List.all_eq_true]
    have hs := List.all_eq_true.1 h.2
    exact fun c hc => hs c (List.mem_append_left _ (dup_mem.2 ⟨c, hc, .inr rfl⟩))

theorem two_cells (w5 : World) (a b : Value) : ∀ (j : Nat) (u : Value), [a, b][j]? = some u → (w5.alloc (.cells #[a, b] 32)).cell? ((⟨w5.heap.size, 0, none⟩ : Addr).add j) = some u
  | 0, u, h => by
    have e : a = u := by simpa using h
    subst e
    exact (Blk.new w5 32 #[a, b]).cell 0
  | 1, u, h => by
    have e : b = u := by simpa using h
    subst e
    exact (Blk.new w5 32 #[a, b]).cell 1
  | j + 2, u, h => by simp at h
theorem two_one (A B : Option Addr) (n c m d : Nat) : ∀ u ∈ [Value.slice A n c, Value.slice B m d], u.oneCell' = true := fun u hu => by
  simp only [List.mem_cons, List.not_mem_nil, or_false] at hu
  rcases hu with rfl | rfl <;> rfl

set_option maxHeartbeats 4000000 in
theorem law13_walk (A : Option Addr) (n c : Nat) (f : List (List Int)) (lA : Option Addr) (ln lc : Nat) (l : List Int) (w : World) (h : R2 w (fun _ => True) A n c f) (h' : R1 w (fun _ => True) lA ln lc l) :
    Calls Try.prog 13 #[.slice A n c, .slice lA ln lc] w (Gives w (.bool true)) := by
  have HF := Lib.hid h
  have HL := Lib.hid h'
  have hb1 := h.big
  have hc1 := h.cap
  have hb2 := h'.big
  have hc2 := h'.cap
  clear h h'
  have HSf := Lib.hid fun W (fad : Option Addr) {fn fc : Nat} (h : R2 W (fun _ => True) fad fn fc (madeF f)) => solve4 _ fad fn fc (madeF f) W h
  have HN12 := Lib.hid (madeF_len f)
  obtain ⟨N, hN⟩ : ∃ N, (madeF f).length = N := ⟨_, rfl⟩
  have hN12 : N ≤ 12 := by have := HN12.out; omega
  have HN := Lib.hid hN
  clear hN
  go_enter Try.func13, Try.ntmps13
  go_wp2_with (first | (go_at_call 15; refine (sanity_c _).mono ?_; rintro e w1 ⟨rfl, hb⟩; have HB1 := Lib.hid hb; clear hb) | (go_at_call 30; refine (madeF_c _ A n c f _ (HF.out.below HB1.out)).mono ?_; rintro e w2 ⟨fad, fn, fc, rfl, hf, hn12, hb⟩; have HB2 := Lib.hid (HB1.out.trans (hb.mono HB1.out.size)); have HM2 := Lib.hid (hf.weak (K' := fun _ => True) fun _ _ _ => trivial); have hfc := hf.cap; obtain rfl : N = fn := (by have h8 := hf.len; have h9 := HN.out; omega); clear hb hf))
  have HK2 := Lib.hid (HM2.out.weak (K' := fun q => q < w2.heap.size) fun k hk _ => hk)
  have HBd := Lib.hid (show BdRel w2 (w2.alloc (.cells #[] 32)) (dupF ((madeF f).drop N)) (some ⟨w2.heap.size, 0, none⟩) 0 0 by
    rw [List.drop_eq_nil_of_le (by have := HN.out; omega)]; exact BdRel.start w2)
  go_loopw [7, 8] (fun s7 s8 wr => ∃ (k n0 c0 : Nat) (A0 : Option Addr), k ≤ N ∧ s8 = .int .i64 ((k : Int) - 1) ∧ s7 = .slice A0 n0 c0 ∧ BdRel w2 wr (dupF ((madeF f).drop k)) A0 n0 c0) (fun _ s8 _ => (intOf s8 + 1).toNat)
  case atStart => exact ⟨N, 0, 0, _, Nat.le_refl _, rfl, rfl, HBd.out⟩
  case round =>
    clear HBd
    obtain ⟨k, n0, c0, A0, hk, rfl, rfl, hq⟩ := hrel
    obtain ⟨wo, rfl⟩ : ∃ wo : World, wo = wr := ⟨_, rfl⟩
    have HQ := Lib.hid hq
    have hn0 : n0 ≤ 24 := by
      have h1 := hq.len
      rw [dup_len, List.length_drop] at h1
      have := HN12.out
      omega
    obtain ⟨us, kn1, kn2⟩ := hq.ex
    have HK1 := Lib.hid kn1
    have HKa := Lib.hid kn2
    have hkc := kn1.cap
    clear hq kn1 kn2
    cases k with
    | zero =>
      have e : (((0 : Nat) : Int) - 1) = -1 := rfl
      rw [e]
      clear e
      have HFe0 := Lib.hid (HM2.out.below HQ.out.below)
      by_cases hN0 : N = 0
      · subst hN0
        have HSm := Lib.hid (order_same f [] (by simp) (by simp))
        have HGe := Lib.hid (show R2 wo (fun _ => True) A0 n0 c0 (dupF (madeF f) ++ []) by rw [List.append_nil]; exact HQ.out.r2 (by omega))
        have HFe := HFe0
        have HBe := Lib.hid (HB2.out.trans (HQ.out.below.mono HB2.out.size))
        obtain ⟨GA, hGA⟩ : ∃ GA, GA = A0 := ⟨_, rfl⟩
        obtain ⟨gn, hgn⟩ : ∃ gn, gn = n0 := ⟨_, rfl⟩
        obtain ⟨gc, hgc⟩ : ∃ gc, gc = c0 := ⟨_, rfl⟩
        subst hGA hgn hgc
        go_wp2_with (first | (go_at_call 16; refine (HSf.out _ _ (by first | exact HFe.out)).mono ?_; rintro e w6 ⟨aA, an, ac, pA, pn, pc, rfl, hm, hp, hb⟩; have HB6 := Lib.hid (HBe.out.trans (hb.mono HBe.out.size)); have HG6 := Lib.hid (HGe.out.below hb); have HX6 := Lib.hid hm; clear hb hm hp) | (go_at_call 16; refine (solve4 _ GA gn gc _ w6 HG6.out).mono ?_; rintro e w7 ⟨bA, bn, bc, qA, qn, qc, rfl, hm, hp, hb⟩; rw [← HSm.out.2.1, HSm.out.2.2]; have HB7 := Lib.hid (HB6.out.trans (hb.mono HB6.out.size)); have HX7 := Lib.hid (HX6.out.below hb); have HY7 := Lib.hid (show RB w7 (fun _ => True) bA bn bc (solveF (madeF f) 4).1 by rw [HSm.out.1]; exact hm); clear hb hm hp) | (go_at_call 22; refine (sameBools_c _ _ aA bA an ac bn bc _ _ w7 HX7.out HY7.out).mono ?_; rintro e w8 ⟨rfl, hb⟩; have HB8 := Lib.hid (HB7.out.trans (hb.mono HB7.out.size)); clear hb))
        go_ret
        exact ⟨by simp, HB8.out⟩
      · obtain ⟨ad, x, xA, xn, xc, had, _, hx, hcell, hx1⟩ := ((HK2.out.below HQ.out.below)).at_ (show 0 < N by omega)
        cases had
        have hadd : fad.add 0 = fad := by simp [Addr.add]
        rw [hadd] at hcell
        have hxm := made_short (List.mem_of_getElem? hx)
        have hxn : xn ≤ 4 := by
          have h1 := hx1.len
          omega
        have HSm := Lib.hid (order_same f [x ++ madeC l] (fun c hc => ⟨x, List.mem_of_getElem? hx, madeC l, madeC_len l, madeC_wi l, by simpa using hc⟩) (by simp))
        have HX1 := Lib.hid hx1
        have hcA : (wo.alloc (.cells #[] 3)).cell? fad = some (.slice xA xn xc) := by
          rw [World.cell?_alloc_lt _ _ _ (lt_of_cell hcell)]; exact hcell
        have hb0 : Below wo.heap.size wo (wo.alloc (.cells #[] 3)) := (Below.refl _ _).alloc (Nat.le_refl _) _
        have HB0 := Lib.hid hb0
        have d1 : decide (0 < N) = true := by simp; omega
        have d2 : decide (0 < (N : Int)) = true := by simp; omega
        have HBo := Lib.hid (HB2.out.trans (HQ.out.below.mono HB2.out.size))
        clear hx hx1 hb0 hxm hcell hadd
        go_wp2_with (first | (at_builtin; refine wpList_appendSl rfl (.tmp 53) (.tmp 56) 32 rfl app32 wo.heap.size (some ⟨wo.heap.size, 0, none⟩) 0 0 [] rfl (Own.lit 3 #[] 0 (Nat.le_refl _) (by omega) rfl) xA xn xc (x.map (Value.int .i64)) rfl (by have := HX1.out.len; simpa using this) (HX1.out.below HB0.out).sl (ints_one x) (by omega) (by omega) (by simp) ?_; intro A4 c4 w4 hown hgr hob; have HO4 := Lib.hid (show Own w4 wo.heap.size 3 A4 xn c4 (x.map (Value.int .i64)) by simpa using hown); have HB4 := Lib.hid (((Below.refl wo.heap.size wo).alloc (Nat.le_refl _) _).grown hgr (by simp) (fun k hk => by cases hk; exact Nat.le_refl _)); clear hown hgr hob) | (go_at_call 33; refine (madeC_c _ lA ln lc l w4 (HL.out.below (HBo.out.trans (HB4.out.mono HBo.out.size)))).mono ?_; rintro e w5 ⟨cA, cn, cc, rfl, hc, hcn4, hb⟩; have HB5 := Lib.hid (HB4.out.trans (hb.mono HB4.out.size)); have HO5 := Lib.hid (HO4.out.below hb); have HC5 := Lib.hid hc; clear hb hc) | (at_builtin; refine wpList_appendSl rfl (.tmp 58) (.tmp 60) 32 rfl app32 wo.heap.size A4 xn c4 (x.map (Value.int .i64)) rfl HO5.out cA cn cc ((madeC l).map (Value.int .i64)) rfl (by have := HC5.out.len; simpa using this) HC5.out.sl (ints_one _) (by omega) (by omega) HB5.out.size ?_; intro A6 c6 w6 hown hgr hob; have HO6 := Lib.hid (show Own w6 wo.heap.size 3 A6 (xn + cn) c6 ((x ++ madeC l).map (Value.int .i64)) by rw [List.map_append]; exact hown); have HB6 := Lib.hid (HB5.out.grown hgr HB5.out.size (fun g hg => (HO5.out.lt g hg).1)); clear hown hgr hob) | (at_builtin; refine wpList_push rfl (.tmp 62) (.tmp 64) 22 rfl app22 w2.heap.size A0 n0 c0 us rfl ((HK1.out.below HB6.out).alloc _) w6.heap.size (.slice A6 (xn + cn) c6) rfl ((Blk.new w6 32 _).cell 0) rfl (by omega) (by omega) (by have := HQ.out.below.size; have := HB6.out.size; simp; omega) ?_; intro GA gc w9 hown hgr hob; have HBd9 := Lib.hid (BdRel.one (HQ.out.below.trans (HB6.out.mono HQ.out.below.size)) (HK1.out.below HB6.out) (HKa.out.old (Old.of_below HB6.out)) (HO6.out.r1 (fun g hg e => by have h1 := (HO6.out.lt g hg).1; have h2 := (HK1.out.lt g e).2; omega) (by omega) (fun y hy => by rcases List.mem_append.1 hy with e | e; exact HX1.out.wf y e; exact HC5.out.wf y e)) hown hgr hob); have HGe := Lib.hid (show R2 w9 (fun _ => True) GA (n0 + 1) gc (dupF (madeF f) ++ [x ++ madeC l]) from HBd9.out.r2 (by omega)); have HFe := Lib.hid (HM2.out.below HBd9.out.below); have HBe := Lib.hid (HB2.out.trans (HBd9.out.below.mono HB2.out.size)); clear hown hgr hob) | (go_at_call 16; refine (HSf.out _ _ (by first | exact HFe.out)).mono ?_; rintro e w6 ⟨aA, an, ac, pA, pn, pc, rfl, hm, hp, hb⟩; have HB6 := Lib.hid (HBe.out.trans (hb.mono HBe.out.size)); have HG6 := Lib.hid (HGe.out.below hb); have HX6 := Lib.hid hm; clear hb hm hp) | (go_at_call 16; refine (solve4 _ GA (n0 + 1) gc _ w6 HG6.out).mono ?_; rintro e w7 ⟨bA, bn, bc, qA, qn, qc, rfl, hm, hp, hb⟩; rw [← HSm.out.2.1, HSm.out.2.2]; have HB7 := Lib.hid (HB6.out.trans (hb.mono HB6.out.size)); have HX7 := Lib.hid (HX6.out.below hb); have HY7 := Lib.hid (show RB w7 (fun _ => True) bA bn bc (solveF (madeF f) 4).1 by rw [HSm.out.1]; exact hm); clear hb hm hp) | (go_at_call 22; refine (sameBools_c _ _ aA bA an ac bn bc _ _ w7 HX7.out HY7.out).mono ?_; rintro e w8 ⟨rfl, hb⟩; have HB8 := Lib.hid (HB7.out.trans (hb.mono HB7.out.size)); clear hb))
        go_ret
        exact ⟨by simp, HB8.out⟩
    | succ k =>
      have e : (((k + 1 : Nat) : Int) - 1) = (k : Int) := by omega
      rw [e]
      clear e
      obtain ⟨ad, x, xA, xn, xc, had, _, hx, hcell, hx1⟩ := (HK2.out.below HQ.out.below).at_ (show k < N by omega)
      cases had
      have hxn : xn ≤ 4 := by
        have h1 := hx1.len
        have h2 := (made_short (List.mem_of_getElem? hx)).1
        omega
      have HX := Lib.hid hx
      have HX1 := Lib.hid hx1
      have HC := Lib.hid hcell
      have hcA : (wo.alloc (.cells #[] 3)).cell? (fad.add k) = some (.slice xA xn xc) := by
        rw [World.cell?_alloc_lt _ _ _ (lt_of_cell hcell)]; exact hcell
      have hb0 : Below wo.heap.size wo (wo.alloc (.cells #[] 3)) := (Below.refl _ _).alloc (Nat.le_refl _) _
      have HB0 := Lib.hid hb0
      clear hx hx1 hb0 hcell
      go_wp2_with (first | (at_builtin; refine wpList_appendSl rfl (.tmp 30) (.tmp 34) 32 rfl app32 wo.heap.size (some ⟨wo.heap.size, 0, none⟩) 0 0 [] rfl (Own.lit 3 #[] 0 (Nat.le_refl _) (by omega) rfl) xA xn xc (x.map (Value.int .i64)) rfl (by have := HX1.out.len; simpa using this) (HX1.out.below HB0.out).sl (ints_one x) (by omega) (by omega) (by simp) ?_; intro A4 c4 w4 hown hgr hob; have HO4 := Lib.hid (show Own w4 wo.heap.size 3 A4 xn c4 (x.map (Value.int .i64)) by simpa using hown); have HB4 := Lib.hid (((Below.refl wo.heap.size wo).alloc (Nat.le_refl _) _).grown hgr (by simp) (fun k hk => by cases hk; exact Nat.le_refl _)); have hc4 : w4.cell? (fad.add k) = some (.slice xA xn xc) := (HB4.out.cell (lt_of_cell HC.out)).trans HC.out; clear hown hgr hob) | (at_builtin; refine wpList_appendSl rfl (.tmp 36) (.tmp 40) 32 rfl app32 wo.heap.size A4 xn c4 (x.map (Value.int .i64)) rfl HO4.out xA xn xc (x.map (Value.int .i64)) rfl (by have := HX1.out.len; simpa using this) (HX1.out.below HB4.out).sl (ints_one x) (by omega) (by omega) HB4.out.size ?_; intro A5 c5 w5 hown hgr hob; have HO5 := Lib.hid (show Own w5 wo.heap.size 3 A5 (xn + xn) c5 ((x ++ x).map (Value.int .i64)) by rw [List.map_append]; exact hown); have HB5 := Lib.hid (HB4.out.grown hgr HB4.out.size (fun g hg => (HO4.out.lt g hg).1)); have hc5 : w5.cell? (fad.add k) = some (.slice xA xn xc) := (HB5.out.cell (lt_of_cell HC.out)).trans HC.out; clear hown hgr hob) | (at_builtin; refine wpList_appendAll rfl (.tmp 42) (.tmp 48) 22 rfl app22 w2.heap.size A0 n0 c0 us rfl ((HK1.out.below HB5.out).alloc _) ⟨w5.heap.size, 0, none⟩ 2 2 [.slice A5 (xn + xn) c5, .slice xA xn xc] rfl rfl (two_cells w5 _ _) (two_one _ _ _ _ _ _) (by omega) (by omega) (by have := HQ.out.below.size; have := HB5.out.size; simp; omega) ?_; intro A9 c9 w9 hown hgr hob; have HO := Lib.hid hown; have HG := Lib.hid hgr; have HNw := Lib.hid hob; clear hown hgr hob))
      have hbd : BdRel w2 w9 (dupF ((madeF f).drop k)) A9 (n0 + 2) c9 := by
        rw [dup_step HX.out]
        have hi : ∀ y ∈ x ++ x, I64 y := fun y hy => by
          have : y ∈ x := by rcases List.mem_append.1 hy with e | e <;> exact e
          exact HX1.out.wf y this
        have hxo : x.length = xn := HX1.out.len
        refine BdRel.push (vs := [.slice A5 (xn + xn) c5, .slice xA xn xc]) (HQ.out.below.trans (HB5.out.mono HQ.out.below.size)) (HK1.out.below HB5.out) (HKa.out.old (Old.of_below HB5.out)) ?_ HO.out HG.out HNw.out
        refine All1.snoc (us := [.slice A5 (xn + xn) c5]) (ls := [x ++ x]) (All1.snoc (All1.nil_ _ _) ⟨A5, xn + xn, c5, rfl, ?_⟩) ⟨xA, xn, xc, rfl, (HX1.out.apart HK1.out).old (Old.of_below HB5.out)⟩
        refine HO5.out.r1 (fun g hg e => ?_) (by omega) hi
        have h1 := (HO5.out.lt g hg).1
        have h2 := (HK1.out.lt g e).2
        omega
      have HBd9 := Lib.hid hbd
      clear hbd
      go_roundw
      case rel => exact ⟨k, n0 + 2, c9, A9, by omega, by go_num, rfl, HBd9.out⟩
      case measure => simp [intOf] <;> omega

theorem order_holds : Rows.ClauseOrderSaid :=
  OpenClaim.holds_of_wide 13 Try.f13 rfl rfl rfl rfl rfl rfl rfl ⟨rfl, rfl, rfl, rfl, rfl⟩ rfl rfl rfl rfl rfl (by kernel_rfl) Try.func13 (by kernel_rfl)
    (of_decide_eq_true (by kernel_rfl)) (by unfold Func.isWrapper; rw [if_neg (of_decide_eq_false (by kernel_rfl))]; exact ⟨rfl, rfl⟩)
    (fun os started H enc _ => law_lifted (s := Rows.clauseOrderSpec) (ts := [22, 32]) os started (by kernel_rfl) Try.func13 (by rw [Try.params13]) (by kernel_rfl) rfl
      (fun ds hd => by
        match ds, hd with
        | [d0, d1], _ => rfl)
      (by intro t ht; simp only [List.mem_cons, List.not_mem_nil, or_false] at ht; rcases ht with rfl | rfl <;> exact ⟨by kernel_rfl, of_decide_eq_true (by kernel_rfl)⟩)
      (ChangeSpec.witness6 (enc := enc) (C := Try.checked) false ⟨#[], #[.slice none 0 0, .slice none 0 0], []⟩ 8 (by kernel_rfl) (by kernel_rfl) (by kernel_rfl) (by kernel_rfl))
      (fun W args hok => by
        match hargs : args.toList, hok with
        | [v0, v1], ⟨h0, h1, _⟩ =>
          obtain ⟨A0, n0, c0, f0, rfl, r0⟩ := h0.1 rfl
          obtain ⟨A1, n1, c1, f1, rfl, r1⟩ := h1.2.1 rfl
          have : args = #[.slice A0 n0 c0, .slice A1 n1 c1] := by cases args; simp_all
          rw [this]
          exact law13_walk A0 n0 c0 f0 A1 n1 c1 f1 W r0 r1))

#print axioms order_holds
end Go.Proofs.Ytekbkdbmkjdgbaa
