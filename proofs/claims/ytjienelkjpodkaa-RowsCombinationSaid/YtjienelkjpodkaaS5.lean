/- The law RowsCombination: for every input it gives true and leaves its arguments as they were.
   Conditions: none beyond the row's own (readable arguments within the form's reach). -/
import Derived.Test.YtjienelkjpodkaaL20
import Derived.Test.YtjienelkjpodkaaS1
namespace Go.Proofs.Ytjienelkjpodkaa
open Go.ChangeShapes Go.WideShapes Go.ChangeAt Go.RowKit

/-- the sum of two rows -/
def sumC (a b : Row) (j : Nat) : List Int := (List.range j).map fun q => a.1.getD q 0 + b.1.getD q 0
def sumR (a b : Row) (n : Nat) : Row := (sumC a b n, a.2 + b.2)
theorem sumC_snoc (a b : Row) (j : Nat) : sumC a b (j + 1) = sumC a b j ++ [a.1.getD j 0 + b.1.getD j 0] := by simp [sumC, List.range_succ]
theorem sumC_len (a b : Row) (j : Nat) : (sumC a b j).length = j := by simp [sumC]
theorem dot_add : ∀ (a b x : List Int), a.length = b.length → dot (List.zipWith (· + ·) a b) x = dot a x + dot b x
  | [], [], x, _ => by simp [dot]
  | [], _ :: _, _, h => by simp at h
  | _ :: _, [], _, h => by simp at h
  | a :: l, b :: m, [], _ => by simp [dot]
  | a :: l, b :: m, x :: s, h => by
    rw [List.zipWith_cons_cons, dot, dot, dot, dot_add l m s (by simpa using h), Int.add_mul]
    omega
theorem sumC_zip {a b : Row} {n : Nat} (h1 : a.1.length = n) (h2 : b.1.length = n) : sumC a b n = List.zipWith (· + ·) a.1 b.1 := by
  apply List.ext_getElem
  · simp [sumC, h1, h2]
  · intro i g1 g2
    have hi : i < n := by simpa [sumC] using g1
    simp [sumC, List.getD_eq_getElem?_getD, List.getElem?_eq_getElem (show i < a.1.length by omega), List.getElem?_eq_getElem (show i < b.1.length by omega)]
theorem sumR_val {a b : Row} {n : Nat} {x : List Int} (h1 : a.1.length = n) (h2 : b.1.length = n) : valR (sumR a b n) x = valR a x + valR b x := by
  unfold valR
  simp only [sumR]
  rw [sumC_zip h1 h2, dot_add _ _ _ (by rw [h1, h2])]
  omega
theorem at6 {s : Sys} {a : Row} (ha : a ∈ (madeS s).2) (j : Nat) : -6 ≤ a.1.getD j 0 ∧ a.1.getD j 0 ≤ 6 := by
  have h := (made_row s a ha).2.1
  by_cases hj : j < a.1.length
  · exact eachB_getD.1 h j hj
  · rw [List.getD_eq_getElem?_getD, List.getElem?_eq_none (by omega)]; simp
theorem sumR_n {s : Sys} {a b : Row} {n : Nat} (ha : a ∈ (madeS s).2) (hb : b ∈ (madeS s).2) : RowN n (sumR a b n) := by
  have h1 := made_row s a ha
  have h2 := made_row s b hb
  refine ⟨sumC_len a b n, ?_, by simp only [sumR]; omega, by simp only [sumR]; omega⟩
  unfold eachB
  rw [List.all_eq_true]
  intro x hx
  simp only [sumR, sumC] at hx
  obtain ⟨q, _, rfl⟩ := List.mem_map.1 hx
  have := at6 ha q
  have := at6 hb q
  exact bet_iff.2 (by omega)
theorem comb_nice {s : Sys} {a b : Row} (ha : a ∈ (madeS s).2) (hb : b ∈ (madeS s).2) : Nice ((madeS s).1, sumR a b (madeS s).1.length :: (madeS s).2.reverse) :=
  (made_nice s).with_ (by have := made_len s; simp; omega) (fun r hr => by
    rcases List.mem_cons.1 hr with rfl | hr
    · exact sumR_n ha hb
    · exact (made_nice s).row r (List.mem_reverse.1 hr))
theorem comb_sat {s : Sys} {a b : Row} (ha : a ∈ (madeS s).2) (hb : b ∈ (madeS s).2) (z : List Int) : Sat (sumR a b (madeS s).1.length :: (madeS s).2.reverse) z ↔ Sat (madeS s).2 z := by
  refine ⟨fun h r hr => h r (List.mem_cons_of_mem _ (List.mem_reverse.2 hr)), fun h r hr => ?_⟩
  rcases List.mem_cons.1 hr with rfl | hr
  · rw [sumR_val ((made_nice s).row a ha).len ((made_nice s).row b hb).len]
    have := h a ha
    have := h b hb
    omega
  · exact h r (List.mem_reverse.1 hr)

/-- the sum under way -/
structure CMem (w3 : World) (g9 g10 g11 : Nat) (A1 : Option Addr) (n1 c1 : Nat) (a : Row) (A2 : Option Addr) (n2 c2 : Nat) (b : Row) (SA : Option Addr) (j sc : Nat) (W : World) : Prop where
  bl : Below w3.heap.size w3 W
  lo : w3.heap.size ≤ g9 ∧ w3.heap.size ≤ g10 ∧ w3.heap.size ≤ g11
  ne : g11 ≠ g9 ∧ g11 ≠ g10
  k9 : Blk W g9 37 #[.slice A1 n1 c1, .int .i64 a.2]
  k10 : Blk W g10 37 #[.slice A2 n2 c2, .int .i64 b.2]
  k11 : Blk W g11 37 #[.slice SA j sc, .int .i64 (a.2 + b.2)]
  own : Own W w3.heap.size 3 SA j sc ((sumC a b j).map (Value.int .i64))
section
variable {w w3 W W' w8 : World} {g9 g10 g11 : Nat} {A1 A2 SA : Option Addr} {n1 c1 n2 c2 j sc : Nat} {a b : Row}
theorem CMem.step (h : CMem w3 g9 g10 g11 A1 n1 c1 a A2 n2 c2 b SA j sc W) (hb : Below W.heap.size W W') : CMem w3 g9 g10 g11 A1 n1 c1 a A2 n2 c2 b SA j sc W' :=
  ⟨h.bl.trans (hb.mono h.bl.size), h.lo, h.ne, h.k9.old hb, h.k10.old hb, h.k11.old hb, h.own.below hb⟩
/-- a number is appended -/
theorem CMem.push {SA' : Option Addr} {sc' : Nat} (h : CMem w3 g9 g10 g11 A1 n1 c1 a A2 n2 c2 b SA j sc W) (hown : Own w8 w3.heap.size 3 SA' (j + 1) sc' ((sumC a b j).map (Value.int .i64) ++ [.int .i64 (a.1.getD j 0 + b.1.getD j 0)])) (hgr : W.grownBy w8 (obl SA)) :
    Blk w8 g11 37 #[.slice SA j sc, .int .i64 (a.2 + b.2)] ∧ Below w3.heap.size w3 w8 ∧ Blk w8 g9 37 #[.slice A1 n1 c1, .int .i64 a.2] ∧ Blk w8 g10 37 #[.slice A2 n2 c2, .int .i64 b.2] ∧
      CMem w3 g9 g10 g11 A1 n1 c1 a A2 n2 c2 b SA' (j + 1) sc' (w8.setCell ⟨g11, 0, none⟩ (.slice SA' (j + 1) sc')) := by
  have hown0 : OwnS W w3.heap.size 3 1 SA j sc ((sumC a b j).map (Value.int .i64)) := h.own
  have hown1 : OwnS w8 w3.heap.size 3 1 SA' (j + 1) sc' ((sumC a b j).map (Value.int .i64) ++ [.int .i64 (a.1.getD j 0 + b.1.getD j 0)]) := hown
  have k9 := h.k9.grown hgr (ownS_ne_blk hown0 h.k9 (by decide))
  have k10 := h.k10.grown hgr (ownS_ne_blk hown0 h.k10 (by decide))
  have k11 := h.k11.grown hgr (ownS_ne_blk hown0 h.k11 (by decide))
  have hb : Below w3.heap.size w3 w8 := h.bl.grown hgr h.bl.size (fun k hk => (hown0.lt k hk).1)
  have o := Only.setCell w8 g11 0 (.slice SA' (j + 1) sc')
  refine ⟨k11, hb, k9, k10, below_only hb o h.lo.2.2, h.lo, h.ne, k9.only o (fun e => h.ne.1 e.symm), k10.only o (fun e => h.ne.2 e.symm), k11.set_ 0 _, ?_⟩
  rw [sumC_snoc, List.map_append]
  exact OwnS.only (s := 1) hown1 o (ownS_ne_blk hown1 k11 (by decide))
end

set_option maxRecDepth 100000 in
set_option maxHeartbeats 4000000 in
theorem law6_none (A B : Option Addr) (n c m d : Nat) (s : Sys) (i k : Nat) (hi : i < 256) (hk : k < 256) (w : World) (h : R1 w TT A n c s.1) (h' : RR w TT B m d s.2) (h0 : (madeS s).2.length = 0) :
    Calls Try.prog 6 #[.agg #[.slice A n c, .slice B m d], .int .u8 i, .int .u8 k] w (Gives w (.bool true)) := by
  have H1 := Lib.hid h
  have H2 := Lib.hid h'
  have HB0 := Lib.hid (show Below w.heap.size w (w.alloc (.cells #[.slice A n c, .slice B m d] 25)) from (Below.refl _ _).alloc (Nat.le_refl _) _)
  have HK0 := Lib.hid (Blk.new w 25 #[.slice A n c, .slice B m d])
  have c0 := HK0.out.cell 0
  have c1 := HK0.out.cell 1
  clear h h'
  go_enter Try.func6, Try.ntmps6
  go_upto_region 3 with (first
    | (go_at_call 9
       refine (made_c TT A B n c m d s _ (H1.out.below HB1.out) (H2.out.below HB1.out)).mono ?_
       rintro e w2 ⟨TA, tn, tc, RA, rm, rd, rfl, r1, r2, hb⟩
       have HB2 := Lib.hid (HB1.out.trans (hb.mono HB1.out.size))
       have HM3 := Lib.hid (LMem.start (t := madeS s) HB2.out r1 r2)
       have hn2 := r1.len
       have hm2 := r2.len
       have hnc2 := r1.cap
       have hmc2 := r2.cap
       clear r1 r2 hb c0 c1
       have c0 := HM3.out.c0
       have c1 := HM3.out.c1)
    | (go_at_call 8
       refine (sanity_c _).mono ?_
       rintro e w1 ⟨rfl, hb⟩
       have HB1 := Lib.hid (HB0.out.trans (hb.mono HB0.out.size))
       have hk1 := HK0.out.old hb
       clear c0 c1
       have c0 := hk1.cell 0
       have c1 := hk1.cell 1
       clear hb hk1))
  obtain rfl : rm = 0 := by omega
  have e0 : decide (((0 : Nat) : Int) = 0) = true := rfl
  go_wp2_with fail
  go_ret
  exact ⟨rfl, HM3.out.b⟩

set_option maxRecDepth 100000 in
set_option maxHeartbeats 4000000 in
theorem law6_some (A B : Option Addr) (n c m d : Nat) (s : Sys) (i k : Nat) (hi : i < 256) (hk : k < 256) (w : World) (h : R1 w TT A n c s.1) (h' : RR w TT B m d s.2) (h0 : (madeS s).2.length ≠ 0) :
    Calls Try.prog 6 #[.agg #[.slice A n c, .slice B m d], .int .u8 i, .int .u8 k] w (Gives w (.bool true)) := by
  have H1 := Lib.hid h
  have H2 := Lib.hid h'
  have HB0 := Lib.hid (show Below w.heap.size w (w.alloc (.cells #[.slice A n c, .slice B m d] 25)) from (Below.refl _ _).alloc (Nat.le_refl _) _)
  have HK0 := Lib.hid (Blk.new w 25 #[.slice A n c, .slice B m d])
  have c0 := HK0.out.cell 0
  have c1 := HK0.out.cell 1
  clear h h'
  go_enter Try.func6, Try.ntmps6
  go_upto_region 3 with (first
    | (go_at_call 9
       refine (made_c TT A B n c m d s _ (H1.out.below HB1.out) (H2.out.below HB1.out)).mono ?_
       rintro e w2 ⟨TA, tn, tc, RA, rm, rd, rfl, r1, r2, hb⟩
       have HB2 := Lib.hid (HB1.out.trans (hb.mono HB1.out.size))
       have HM3 := Lib.hid (LMem.start (t := madeS s) HB2.out r1 r2)
       have hn2 := r1.len
       have hm2 := r2.len
       have hnc2 := r1.cap
       have hmc2 := r2.cap
       clear r1 r2 hb c0 c1
       have c0 := HM3.out.c0
       have c1 := HM3.out.c1)
    | (go_at_call 8
       refine (sanity_c _).mono ?_
       rintro e w1 ⟨rfl, hb⟩
       have HB1 := Lib.hid (HB0.out.trans (hb.mono HB0.out.size))
       have hk1 := HK0.out.old hb
       clear c0 c1
       have c0 := hk1.cell 0
       have c1 := hk1.cell 1
       clear hb hk1))
  have HB3 := Lib.hid (show Below w2.heap.size w2 (w2.alloc (.cells #[.slice TA tn tc, .slice RA rm rd] 25)) from (Below.refl _ _).alloc (Nat.le_refl _) _)
  have hg6 : w2.heap.size < (w2.alloc (.cells #[.slice TA tn tc, .slice RA rm rd] 25)).heap.size := by simp
  clear HB3
  generalize w2.alloc (.cells #[.slice TA tn tc, .slice RA rm rd] 25) = w3 at *
  generalize w2.heap.size = g6 at *
  have ht4 : tn ≤ 4 := by have := (made_top s).2.1; omega
  have hm6 : rm ≤ 6 := by have := made_len s; omega
  have hm1 : 1 ≤ rm := by omega
  have hrm0 : ¬ rm = 0 := by omega
  have e0 : ((rm : Int) == 0) = false := by simp; omega
  have e0n : (rm == 0) = false := by simp; omega
  obtain ⟨q, hq, hmi, hmi2⟩ : ∃ q : Nat, q < rm ∧ (i : Int).tmod (rm : Int) = q ∧ (i : Int) % (rm : Int) = q := ⟨i % rm, Nat.mod_lt _ hm1, by rw [Int.tmod_eq_emod_of_nonneg (by omega)]; rfl, rfl⟩
  obtain ⟨v, hv, hmk, hmk2⟩ : ∃ v : Nat, v < rm ∧ (k : Int).tmod (rm : Int) = v ∧ (k : Int) % (rm : Int) = v := ⟨k % rm, Nat.mod_lt _ hm1, by rw [Int.tmod_eq_emod_of_nonneg (by omega)]; rfl, rfl⟩
  have hqi : (q : Int) < rm := by omega
  have hvi : (v : Int) < rm := by omega
  obtain ⟨ad, a, A1, n1, c1r, rfl, _, ha, hcu, hcv, hR1, hI1⟩ := HM3.out.rows.at_ hq
  obtain ⟨ad', b, A2, n2, c2r, e', _, hb, hcu2, hcv2, hR2, hI2⟩ := HM3.out.rows.at_ hv
  cases e'
  have ham := List.mem_of_getElem? ha
  have hbm := List.mem_of_getElem? hb
  have HS := Lib.hid (fun (W : World) (hb : Below w3.heap.size w3 W) => show (W.cell? ⟨g6, 1, none⟩ = some (.slice (some ad) rm rd)) from (HM3.out.k.old hb).cell 1)
  have hwi : IntKind.i64.wrap (i : Int) = i := i64_wrap _ (by omega)
  have hwk : IntKind.i64.wrap (k : Int) = k := i64_wrap _ (by omega)
  have hcv' : w3.cell? ⟨(ad.add (q * 2)).block, (ad.add (q * 2)).off + 1, none⟩ = some (.int .i64 a.2) := by
    rw [← add_lit (ad.add (q * 2)) (j := 1) (by decide), add_of_add]; exact hcv
  have HSa := Lib.hid (fun (W : World) (hb : Below w3.heap.size w3 W) => show (W.cell? ⟨g6, 1, none⟩ = some (.slice (some ad) rm rd) ∧ W.cell? (ad.add (q * 2)) = some (.slice A1 n1 c1r) ∧ W.cell? ⟨(ad.add (q * 2)).block, (ad.add (q * 2)).off + 1, none⟩ = some (.int .i64 a.2)) from ⟨(HM3.out.k.old hb).cell 1, cell_below hb hcu, cell_below hb hcv'⟩)
  go_upto_region 5 with fail
  have HBda := Lib.hid (show Below w3.heap.size w3 w3.drew from (Below.refl _ _).drew)
  refine wp_region_reads (by kernel_rfl) 10 11 [.pointer (some ⟨g6, 1, none⟩), .slice (some ad) rm rd, .int .u8 i, .int .i64 i, .pointer (some ⟨g6, 1, none⟩), .slice (some ad) rm rd, .int .i64 rm, .int .i64 (q : Int), .pointer (some (ad.add (q * 2))), .agg #[.slice A1 n1 c1r, .int .i64 a.2]]
    (fun W => W.cell? ⟨g6, 1, none⟩ = some (.slice (some ad) rm rd) ∧ W.cell? (ad.add (q * 2)) = some (.slice A1 n1 c1r) ∧ W.cell? ⟨(ad.add (q * 2)).block, (ad.add (q * 2)).off + 1, none⟩ = some (.int .i64 a.2)) (by decide +kernel) (fun _ _ d _ _ h => by cases d <;> exact h) (HSa.out _ HBda.out) (fun W hS => ?_) ?_
  · obtain ⟨s1, s2, s3⟩ := hS
    dsimp only [List.take]
    repeat (refine ⟨by go_simp, ?_⟩; simp only [Act.put, List.setIfInBounds_toArray, List.set_cons_zero, List.set_cons_succ])
    exact trivial
  dsimp only [List.take, List.drop, putL]
  simp only [Act.put, List.setIfInBounds_toArray, List.set_cons_zero, List.set_cons_succ]
  refine chain_val (w' := w3.drew.alloc (.cells #[.slice none 0 0, .int .i64 0] 37)) (.pointer (some ⟨w3.heap.size, 0, none⟩)) (run_alloc37 rfl _) (fun _ => HSa.out _ (HBda.out.alloc HBda.out.size _)) ?_
  simp only [Act.put, List.setIfInBounds_toArray, List.set_cons_zero, List.set_cons_succ]
  dsimp only [chainW]
  go_simp
  have HB4 := Lib.hid (show Below w3.heap.size w3 (w3.alloc (.cells #[.slice A1 n1 c1r, .int .i64 a.2] 37)).drew from ((Below.refl _ _).alloc (Nat.le_refl _) _).drew)
  have HK9 := Lib.hid (show Blk (w3.alloc (.cells #[.slice A1 n1 c1r, .int .i64 a.2] 37)).drew w3.heap.size 37 #[.slice A1 n1 c1r, .int .i64 a.2] from blk_drew (Blk.new _ _ _))
  have hs4 : w3.heap.size < (w3.alloc (.cells #[.slice A1 n1 c1r, .int .i64 a.2] 37)).drew.heap.size := HK9.out.lt
  clear HSa HBda
  generalize (w3.alloc (.cells #[.slice A1 n1 c1r, .int .i64 a.2] 37)).drew = w4 at *
  have hcv2' : w3.cell? ⟨(ad.add (v * 2)).block, (ad.add (v * 2)).off + 1, none⟩ = some (.int .i64 b.2) := by
    rw [← add_lit (ad.add (v * 2)) (j := 1) (by decide), add_of_add]; exact hcv2
  have HSb := Lib.hid (fun (W : World) (hb0 : Below w4.heap.size w4 W) => show (W.cell? ⟨g6, 1, none⟩ = some (.slice (some ad) rm rd) ∧ W.cell? (ad.add (v * 2)) = some (.slice A2 n2 c2r) ∧ W.cell? ⟨(ad.add (v * 2)).block, (ad.add (v * 2)).off + 1, none⟩ = some (.int .i64 b.2)) from
    have hb := HB4.out.trans (hb0.mono HB4.out.size)
    ⟨(HM3.out.k.old hb).cell 1, cell_below hb hcu2, cell_below hb hcv2'⟩)
  have HC3 := Lib.hid (fun (W : World) (hb : Below w3.heap.size w3 W) => show (W.cell? ⟨g6, 0, none⟩ = some (.slice TA tn tc) ∧ W.cell? ⟨g6, 1, none⟩ = some (.slice (some ad) rm rd)) from ⟨(HM3.out.k.old hb).cell 0, (HM3.out.k.old hb).cell 1⟩)
  clear c0 c1 hcu hcv hcv' hcu2 hcv2 hcv2' HS
  go_upto_region 6 with fail
  have HBdb := Lib.hid (show Below w4.heap.size w4 w4.drew from (Below.refl _ _).drew)
  refine wp_region_reads (by kernel_rfl) 10 11 [.pointer (some ⟨g6, 1, none⟩), .slice (some ad) rm rd, .int .u8 k, .int .i64 k, .pointer (some ⟨g6, 1, none⟩), .slice (some ad) rm rd, .int .i64 rm, .int .i64 (v : Int), .pointer (some (ad.add (v * 2))), .agg #[.slice A2 n2 c2r, .int .i64 b.2]]
    (fun W => W.cell? ⟨g6, 1, none⟩ = some (.slice (some ad) rm rd) ∧ W.cell? (ad.add (v * 2)) = some (.slice A2 n2 c2r) ∧ W.cell? ⟨(ad.add (v * 2)).block, (ad.add (v * 2)).off + 1, none⟩ = some (.int .i64 b.2)) (by decide +kernel) (fun _ _ d _ _ h => by cases d <;> exact h) (HSb.out _ HBdb.out) (fun W hS => ?_) ?_
  · obtain ⟨s1, s2, s3⟩ := hS
    dsimp only [List.take]
    repeat (refine ⟨by go_simp, ?_⟩; simp only [Act.put, List.setIfInBounds_toArray, List.set_cons_zero, List.set_cons_succ])
    exact trivial
  dsimp only [List.take, List.drop, putL]
  simp only [Act.put, List.setIfInBounds_toArray, List.set_cons_zero, List.set_cons_succ]
  refine chain_val (w' := w4.drew.alloc (.cells #[.slice none 0 0, .int .i64 0] 37)) (.pointer (some ⟨w4.heap.size, 0, none⟩)) (run_alloc37 rfl _) (fun _ => HSb.out _ (HBdb.out.alloc HBdb.out.size _)) ?_
  simp only [Act.put, List.setIfInBounds_toArray, List.set_cons_zero, List.set_cons_succ]
  dsimp only [chainW]
  go_simp
  have HB5 := Lib.hid (show Below w4.heap.size w4 (w4.alloc (.cells #[.slice A2 n2 c2r, .int .i64 b.2] 37)).drew from ((Below.refl _ _).alloc (Nat.le_refl _) _).drew)
  have HK10 := Lib.hid (show Blk (w4.alloc (.cells #[.slice A2 n2 c2r, .int .i64 b.2] 37)).drew w4.heap.size 37 #[.slice A2 n2 c2r, .int .i64 b.2] from blk_drew (Blk.new _ _ _))
  have HK9b := Lib.hid (HK9.out.old HB5.out)
  have hs5 : w4.heap.size < (w4.alloc (.cells #[.slice A2 n2 c2r, .int .i64 b.2] 37)).drew.heap.size := HK10.out.lt
  clear HSb HBdb
  generalize (w4.alloc (.cells #[.slice A2 n2 c2r, .int .i64 b.2] 37)).drew = w5 at *
  have HBw5 := Lib.hid (HB4.out.trans (HB5.out.mono HB4.out.size))
  generalize hg10 : w4.heap.size = g10 at *
  have hga := made_row s a ham
  have hgb := made_row s b hbm
  have hwc : IntKind.i64.wrap (a.2 + b.2) = a.2 + b.2 := i64_wrap _ (by omega)
  have hn1 : n1 = tn := by have := hR1.len; have := hga.1.len; omega
  have hn2' : n2 = tn := by have := hR2.len; have := hgb.1.len; omega
  subst hn1
  subst hn2'
  have HR1 := Lib.hid hR1
  have HR2 := Lib.hid hR2
  have Ham := Lib.hid ham
  have Hbm := Lib.hid hbm
  have e1 := HK9b.out.cell 1
  have e2 := HK10.out.cell 1
  clear hR1 hR2 ham hbm hga hgb ha hb hmi hmi2 hmk hmk2
  have HCm := Lib.hid (show CMem w3 w3.heap.size g10 w5.heap.size A1 n2 c1r a A2 n2 c2r b none 0 0 (w5.alloc (.cells #[.slice none 0 0, .int .i64 (a.2 + b.2)] 37)) from
    have hb := (Below.refl w5.heap.size w5).alloc (Nat.le_refl _) (.cells #[.slice none 0 0, .int .i64 (a.2 + b.2)] 37)
    ⟨HBw5.out.trans (hb.mono HBw5.out.size), ⟨Nat.le_refl _, by omega, by omega⟩, ⟨by omega, by omega⟩, HK9b.out.old hb, HK10.out.old hb, Blk.new _ _ _, Own.nil_ _ _ _⟩)
  have hs6 : w3.heap.size ≤ w5.heap.size := by omega
  go_upto_region 8 with fail
  clear e1 e2 hwc
  go_wp2_with fail
  go_loopw [12] (fun s12 wr => ∃ (j : Nat) (SA : Option Addr) (sc : Nat), j ≤ n2 ∧ s12 = .int .i64 j ∧ CMem w3 w3.heap.size g10 w5.heap.size A1 n2 c1r a A2 n2 c2r b SA j sc wr) (fun s12 _ => n2 - (intOf s12).toNat)
  case atStart => exact ⟨0, none, 0, Nat.zero_le _, rfl, HCm.out⟩
  case round =>
    obtain ⟨j, SA, sc, hjn, rfl, hm⟩ := hrel
    obtain ⟨wo, rfl⟩ : ∃ wo : World, wo = wr := ⟨_, rfl⟩
    have c0 := (HC3.out _ hm.bl).1
    have HMo := Lib.hid hm
    clear hm
    by_cases h1 : j < n2
    · have d1 : decide ((j : Int) < n2) = true := by simp; omega
      have d1n : decide (j < n2) = true := decide_eq_true h1
      have hji : (j : Int) < n2 := by omega
      obtain ⟨ad1, x, rfl, _, hx, _, hcx⟩ := HR1.out.at_ h1
      obtain ⟨ad2, y, rfl, _, hy, _, hcy⟩ := HR2.out.at_ h1
      have hx1 : a.1.getD j 0 = x := by rw [List.getD_eq_getElem?_getD, hx]; rfl
      have hy1 : b.1.getD j 0 = y := by rw [List.getD_eq_getElem?_getD, hy]; rfl
      have hxb := at6 Ham.out j
      have hyb := at6 Hbm.out j
      rw [hx1] at hxb
      rw [hy1] at hyb
      have hw : IntKind.i64.wrap (x + y) = x + y := i64_wrap _ (by omega)
      have HPu := Lib.hid (fun (W : World) (hW : CMem w3 w3.heap.size g10 w5.heap.size (some ad1) n2 c1r a (some ad2) n2 c2r b SA j sc W) (SA' : Option Addr) (sc' : Nat) (w8 : World) (hown : Own w8 w3.heap.size 3 SA' (j + 1) sc' ((sumC a b j).map (Value.int .i64) ++ [.int .i64 (x + y)])) (hgr : W.grownBy w8 (obl SA)) => hW.push (w8 := w8) (SA' := SA') (sc' := sc') (by rw [hx1, hy1]; exact hown) hgr)
      clear hx hy hx1 hy1 hxb hyb
      go_upto_region 11 with fail
      have HBd := Lib.hid (show Below wo.heap.size wo wo.drew from (Below.refl _ _).drew)
      have HMd := Lib.hid (HMo.out.step HBd.out)
      have HBa := Lib.hid (show Below wo.drew.heap.size wo.drew (wo.drew.alloc (.cells #[.int .i64 (x + y)] 3)) from (Below.refl _ _).alloc (Nat.le_refl _) _)
      have HMa := Lib.hid (HMd.out.step HBa.out)
      have HSc := Lib.hid (fun (W : World) (hW : CMem w3 w3.heap.size g10 w5.heap.size (some ad1) n2 c1r a (some ad2) n2 c2r b SA j sc W) => show (W.cell? ⟨w5.heap.size, 0, none⟩ = some (.slice SA j sc) ∧ W.cell? ⟨w3.heap.size, 0, none⟩ = some (.slice (some ad1) n2 c1r) ∧ W.cell? ⟨g10, 0, none⟩ = some (.slice (some ad2) n2 c2r) ∧ W.cell? (ad1.add j) = some (.int .i64 x) ∧ W.cell? (ad2.add j) = some (.int .i64 y)) from ⟨hW.k11.cell 0, hW.k9.cell 0, hW.k10.cell 0, cell_below hW.bl hcx, cell_below hW.bl hcy⟩)
      refine wp_region_reads (by kernel_rfl) 13 15 [.pointer (some ⟨w5.heap.size, 0, none⟩), .slice SA j sc, .pointer (some ⟨w3.heap.size, 0, none⟩), .slice (some ad1) n2 c1r, .int .i64 j, .pointer (some (ad1.add j)), .int .i64 x, .pointer (some ⟨g10, 0, none⟩), .slice (some ad2) n2 c2r, .int .i64 j, .pointer (some (ad2.add j)), .int .i64 y, .int .i64 (x + y)]
        (fun W => W.cell? ⟨w5.heap.size, 0, none⟩ = some (.slice SA j sc) ∧ W.cell? ⟨w3.heap.size, 0, none⟩ = some (.slice (some ad1) n2 c1r) ∧ W.cell? ⟨g10, 0, none⟩ = some (.slice (some ad2) n2 c2r) ∧ W.cell? (ad1.add j) = some (.int .i64 x) ∧ W.cell? (ad2.add j) = some (.int .i64 y)) (by decide +kernel) (fun _ _ d _ _ h => by cases d <;> exact h) (HSc.out _ HMd.out) (fun W hS => ?_) ?_
      · obtain ⟨s1, s2, s3, s4, s5⟩ := hS
        clear hcx hcy c0
        dsimp only [List.take]
        repeat (refine ⟨by go_simp, ?_⟩; simp only [Act.put, List.setIfInBounds_toArray, List.set_cons_zero, List.set_cons_succ])
        exact trivial
      dsimp only [List.take, List.drop, putL]
      simp only [Act.put, List.setIfInBounds_toArray, List.set_cons_zero, List.set_cons_succ]
      refine chain_val (w' := wo.drew.alloc (.cells #[.int .i64 (x + y)] 3)) (.slice (some ⟨wo.heap.size, 0, none⟩) 1 1) (by go_simp) (fun _ => HSc.out _ HMa.out) ?_
      simp only [Act.put, List.setIfInBounds_toArray, List.set_cons_zero, List.set_cons_succ]
      refine chain_step #[] rfl (step_pushS rfl (.tmp 65) (.tmp 77) 22 rfl app22s w3.heap.size SA j sc _ rfl (show OwnS _ _ _ _ _ _ _ _ from HMa.out.own) wo.heap.size [.int .i64 (x + y)] rfl rfl 3 (Blk.new wo.drew 3 _) (by simp [Value.oneCell']) (by omega) (by omega) HMa.out.bl.size ?_)
      intro S2 sc2 w8 hown hgr _
      obtain ⟨p11, pb, p9, p10, pm⟩ := HPu.out _ HMa.out S2 sc2 w8 hown hgr
      have HPm := Lib.hid pm
      refine ⟨fun _ => ⟨p11.cell 0, p9.cell 0, p10.cell 0, cell_below pb hcx, cell_below pb hcy⟩, ?_⟩
      have q0 := p11.cell 0
      have f0 := p11.frozen 0
      clear p11 pb p9 p10 pm hcx hcy c0 hown hgr hw
      simp only [Act.put, List.setIfInBounds_toArray, List.set_cons_zero, List.set_cons_succ]
      refine chain_val (w' := w8) (.pointer (some ⟨w5.heap.size, 0, none⟩)) (by go_simp) (fun h => absurd h (by decide)) ?_
      simp only [Act.put, List.setIfInBounds_toArray, List.set_cons_zero, List.set_cons_succ]
      dsimp only [chainW]
      go_simp
      go_wp2_with fail
      go_roundw
      case rel => exact ⟨j + 1, S2, sc2, by omega, by go_num, HPm.out⟩
      case measure => simp [intOf]; omega
    · have d1 : decide ((j : Int) < n2) = false := by simp; omega
      have d1n : decide (j < n2) = false := decide_eq_false h1
      obtain rfl : n2 = j := by omega
      clear HCm
      have t0 := HMo.out.k11.cell 0
      have t1 := HMo.out.k11.cell 1
      go_upto_region 13 with fail
      have HRs := Lib.hid (show R1 wo (fun k => k < wo.heap.size) SA n2 sc (sumC a b n2) from HMo.out.own.r1 (fun k hk => (HMo.out.own.lt k hk).2) (by omega) (fun x hx => by
        simp only [sumC] at hx
        obtain ⟨e, _, rfl⟩ := List.mem_map.1 hx
        have h5 := at6 Ham.out e
        have h6 := at6 Hbm.out e
        exact i64_small (by omega) (by omega)))
      have hCb : I64 (a.2 + b.2) := by
        have h5 := made_row s a Ham.out
        have h6 := made_row s b Hbm.out
        exact i64_small (by omega) (by omega)
      have HT7 := Lib.hid (show TMem w3 (wo.heap.size + 1) (.slice TA n2 tc) (some ⟨wo.heap.size, 0, none⟩) 1 1 (sumR a b n2 :: (madeS s).2.reverse.take 0) ((wo.alloc (.cells #[.slice SA n2 sc, .int .i64 (a.2 + b.2)] 37)).alloc (.cells #[.slice TA n2 tc, .slice (some ⟨wo.heap.size, 0, none⟩) 1 1] 25)) from by
        have hb1 : Below wo.heap.size wo (wo.alloc (.cells #[.slice SA n2 sc, .int .i64 (a.2 + b.2)] 37)) := (Below.refl _ _).alloc (Nat.le_refl _) _
        have hr := ((AllR.nil_ (wo.alloc (.cells #[.slice SA n2 sc, .int .i64 (a.2 + b.2)] 37)) (fun k => obl (some (⟨wo.heap.size, 0, none⟩ : Addr)) ≠ some k)).snoc (r := sumR a b n2) ⟨SA, n2, sc, rfl, rfl, (HRs.out.below hb1).weak (fun k _ (hk : k < wo.heap.size) e => by
          have : wo.heap.size = k := by simpa [obl] using e
          omega), hCb⟩)
        have ho : OwnR (wo.alloc (.cells #[.slice SA n2 sc, .int .i64 (a.2 + b.2)] 37)) w3.heap.size (some ⟨wo.heap.size, 0, none⟩) 1 1 [sumR a b n2] :=
          ⟨_, OwnS.lit 37 2 1 #[.slice SA n2 sc, .int .i64 (a.2 + b.2)] HMo.out.bl.size (by omega) rfl, hr⟩
        have := TMem.fresh (w3 := w3) (T := .slice TA n2 tc) (HMo.out.bl.trans (hb1.mono HMo.out.bl.size)) ho
        simpa using this)
      have hsz : w3.heap.size ≤ wo.heap.size := HMo.out.bl.size
      have c1 := (HC3.out _ HT7.out.b).2
      clear c0 t0 t1 HRs hCb HMo d1 d1n h1
      generalize ((wo.alloc (.cells #[.slice SA n2 sc, .int .i64 (a.2 + b.2)] 37)).alloc (.cells #[.slice TA n2 tc, .slice (some ⟨wo.heap.size, 0, none⟩) 1 1] 25)) = w7 at *
      generalize wo.heap.size + 1 = g13 at *
      have hw1 : IntKind.i64.wrap ((rm : Int) - 1) = (rm : Int) - 1 := i64_wrap _ (by omega)
      go_wp2_with fail
      clear c1
      go_loopw [14] (fun s14 wr => ∃ (z : Int) (k : Nat) (QA : Option Addr) (qc : Nat), k ≤ rm ∧ z + 1 + k = rm ∧ s14 = .int .i64 z ∧ TMem w3 g13 (.slice TA n2 tc) QA (1 + k) qc (sumR a b n2 :: (madeS s).2.reverse.take k) wr) (fun s14 _ => (intOf s14 + 1).toNat)
      case atStart => exact ⟨(rm : Int) - 1, 0, _, 1, Nat.zero_le _, by omega, rfl, HT7.out⟩
      case round =>
        clear HT7
        obtain ⟨z, kk, QA, qc, hkr, hzk, rfl, hT⟩ := hrel
        obtain ⟨wp, rfl⟩ : ∃ wp : World, wp = wr := ⟨_, rfl⟩
        have HTp := Lib.hid hT
        clear hT
        by_cases hz : 0 ≤ z
        · obtain ⟨p, rfl⟩ : ∃ p : Nat, z = p := ⟨z.toNat, by omega⟩
          have d1 : decide ((0 : Int) ≤ (p : Int)) = true := by simp
          have hp : p < rm := by omega
          have hpi : (p : Int) < rm := by omega
          have hwp : IntKind.i64.wrap ((p : Int) - 1) = (p : Int) - 1 := i64_wrap _ (by omega)
          obtain ⟨ad3, r, A3, n3, c3, e3, _, hr, hcu, hcv, hR3, hI3⟩ := HM3.out.rows.at_ hp
          cases e3
          have hcv' : w3.cell? ⟨(ad.add (p * 2)).block, (ad.add (p * 2)).off + 1, none⟩ = some (.int .i64 r.2) := by
            rw [← add_lit (ad.add (p * 2)) (j := 1) (by decide), add_of_add]; exact hcv
          have HRv := Lib.hid (show (madeS s).2.reverse.take kk ++ [r] = (madeS s).2.reverse.take (kk + 1) from by
            rw [List.take_add_one, List.getElem?_reverse (by omega), show (madeS s).2.length - 1 - kk = p by omega, hr]; rfl)
          have HRr := Lib.hid (fun (W : World) (hT : TMem w3 g13 (.slice TA n2 tc) QA (1 + kk) qc (sumR a b n2 :: (madeS s).2.reverse.take kk) W) => show RowIn W (fun k => obl QA ≠ some k) (.slice A3 n3 c3) (.int .i64 r.2) r from
            ⟨A3, n3, c3, rfl, rfl, ((hR3.weak (K' := fun k => k < w3.heap.size) fun k hk _ => hk).below hT.b).weak (fun k _ (hk : k < w3.heap.size) e => by have := (hT.r.lt k e).1; omega), hI3⟩)
          have HSd := Lib.hid (fun (W : World) (hT : TMem w3 g13 (.slice TA n2 tc) QA (1 + kk) qc (sumR a b n2 :: (madeS s).2.reverse.take kk) W) => show (W.cell? ⟨g13, 1, none⟩ = some (.slice QA (1 + kk) qc) ∧ W.cell? ⟨g6, 1, none⟩ = some (.slice (some ad) rm rd) ∧ W.cell? (ad.add (p * 2)) = some (.slice A3 n3 c3) ∧ W.cell? ⟨(ad.add (p * 2)).block, (ad.add (p * 2)).off + 1, none⟩ = some (.int .i64 r.2)) from
            ⟨hT.c1, (HC3.out _ hT.b).2, cell_below hT.b hcu, cell_below hT.b hcv'⟩)
          have HSe := Lib.hid (fun (W : World) (hb : Below w3.heap.size w3 W) => show (W.cell? ⟨g6, 1, none⟩ = some (.slice (some ad) rm rd) ∧ W.cell? (ad.add (p * 2)) = some (.slice A3 n3 c3) ∧ W.cell? ⟨(ad.add (p * 2)).block, (ad.add (p * 2)).off + 1, none⟩ = some (.int .i64 r.2)) from
            ⟨(HC3.out _ hb).2, cell_below hb hcu, cell_below hb hcv'⟩)
          clear hr hcu hcv hcv' hR3 hI3 hz
          go_upto_region 16 with fail
          have HTd := Lib.hid (HTp.out.step ((Below.refl _ _).drew))
          have HTa := Lib.hid (HTd.out.step ((Below.refl wp.drew.heap.size wp.drew).alloc (Nat.le_refl _) (.cells #[.slice A3 n3 c3, .int .i64 r.2] 37)))
          refine wp_region_reads (by kernel_rfl) 7 9 [.pointer (some ⟨g13, 1, none⟩), .slice QA (1 + kk) qc, .pointer (some ⟨g6, 1, none⟩), .slice (some ad) rm rd, .int .i64 p, .pointer (some (ad.add (p * 2))), .agg #[.slice A3 n3 c3, .int .i64 r.2]]
            (fun W => W.cell? ⟨g13, 1, none⟩ = some (.slice QA (1 + kk) qc) ∧ W.cell? ⟨g6, 1, none⟩ = some (.slice (some ad) rm rd) ∧ W.cell? (ad.add (p * 2)) = some (.slice A3 n3 c3) ∧ W.cell? ⟨(ad.add (p * 2)).block, (ad.add (p * 2)).off + 1, none⟩ = some (.int .i64 r.2)) (by decide +kernel) (fun _ _ d _ _ h => by cases d <;> exact h) (HSd.out _ HTd.out) (fun W hS => ?_) ?_
          · obtain ⟨s1, s2, s3, s4⟩ := hS
            dsimp only [List.take]
            repeat (refine ⟨by go_simp, ?_⟩; simp only [Act.put, List.setIfInBounds_toArray, List.set_cons_zero, List.set_cons_succ])
            exact trivial
          dsimp only [List.take, List.drop, putL]
          simp only [Act.put, List.setIfInBounds_toArray, List.set_cons_zero, List.set_cons_succ]
          refine chain_val (w' := wp.drew.alloc (.cells #[.slice A3 n3 c3, .int .i64 r.2] 37)) (.slice (some ⟨wp.heap.size, 0, none⟩) 1 1) (by go_simp) (fun _ => HSd.out _ HTa.out) ?_
          simp only [Act.put, List.setIfInBounds_toArray, List.set_cons_zero, List.set_cons_succ]
          refine chain_step #[] rfl (step_pushR rfl (.tmp 94) (.tmp 100) 23 rfl app23 w3.heap.size QA (1 + kk) qc _ rfl HTa.out.r wp.heap.size (.slice A3 n3 c3) (.int .i64 r.2) r rfl (Blk.new wp.drew 37 _) (HRr.out _ HTa.out) (by omega) HTa.out.b.size ?_)
          intro Q2 qc2 w8 hR8 hgr
          have HB8 := Lib.hid (HTa.out.b.grown hgr HTa.out.b.size (fun k hk => (HTa.out.r.lt k hk).1))
          have HK8 := Lib.hid (HTa.out.k.grown hgr (by obtain ⟨us, h1, _⟩ := HTa.out.r.ex; exact ownS_ne_blk h1 HTa.out.k (by decide)))
          have HT9 := Lib.hid (TMem.rows_ HTa.out.lo HB8.out HK8.out hR8)
          have q1 := HK8.out.cell 1
          have f1 := HK8.out.frozen 1
          clear hR8 hgr
          refine ⟨fun _ => ⟨q1, HSe.out _ HB8.out⟩, ?_⟩
          simp only [Act.put, List.setIfInBounds_toArray, List.set_cons_zero, List.set_cons_succ]
          refine chain_val (w' := w8) (.pointer (some ⟨g13, 1, none⟩)) (by go_simp) (fun h => absurd h (by decide)) ?_
          simp only [Act.put, List.setIfInBounds_toArray, List.set_cons_zero, List.set_cons_succ]
          dsimp only [chainW]
          go_simp
          go_wp2_with fail
          clear q1 f1
          go_roundw
          case rel => exact ⟨(p : Int) - 1, kk + 1, Q2, qc2, by omega, by omega, rfl, by have := HT9.out; rw [List.cons_append, HRv.out] at this; exact this⟩
          case measure => simp [intOf]
        · obtain rfl : z = -1 := by omega
          obtain rfl : kk = rm := by omega
          clear hz hzk hkr
          have hrev : (madeS s).2.reverse.take kk = (madeS s).2.reverse := List.take_of_length_le (by simp; omega)
          obtain ⟨hd1, hd2⟩ := HTp.out.done HM3.out (by omega)
          rw [hrev] at hd1
          have HMt := Lib.hid hd1
          have HMs := Lib.hid hd2
          have hnice := comb_nice Ham.out Hbm.out
          have hsat := comb_sat Ham.out Hbm.out
          rw [hn2] at hnice hsat
          have c0 := hd2.c0
          have c1 := hd2.c1
          have c2 := hd1.c0
          have c3 := hd1.c1
          clear hd1 hd2 hrev
          rcases solve_nice (made_nice s) with ⟨x, he, hl⟩ | ⟨p0, he, hc0, hno⟩
          · rcases solve_nice hnice with ⟨y, he2, hl2⟩ | ⟨p, he2, hcp, hno2⟩
            · have hxy : x = y := least_unique hl hl2 rfl (fun z _ hz => (hsat z).2 hz) (fun z _ hz => (hsat z).1 hz)
              subst hxy
              have HE := Lib.hid he
              have HE2 := Lib.hid he2
              have HL := Lib.hid hl
              clear he he2 hl hl2 hnice hsat
              go_wp2_with (first
                | (go_at_call 17
                   refine (same_c TT TT xA yA n2 xc n2 yc x x _ HX7.out HY7.out).mono ?_
                   rw [show decide (x = x) = true from decide_eq_true rfl]
                   rintro e w8 ⟨rfl, hb⟩
                   have HMs8 := Lib.hid (HMs7.out.step hb)
                   clear hb)
                | (go_at_call 10
                   have _ := HMs6
                   refine (solve_yes HMt6.out.top HMt6.out.rows HE2.out (HL.out.1.1.1.trans hn2)).mono ?_
                   rintro e w7 ⟨yA, yc, qA, qc2, rfl, hy, hb⟩
                   have HMs7 := Lib.hid (HMs6.out.step hb)
                   have HX7 := Lib.hid (HX6.out.below hb)
                   have HY7 := Lib.hid hy
                   clear hy hb)
                | (go_at_call 10
                   refine (solve_yes HMs.out.top HMs.out.rows HE.out (HL.out.1.1.1.trans hn2)).mono ?_
                   rintro e w6 ⟨xA, xc, pA, pc, rfl, hx, hb⟩
                   have HMs6 := Lib.hid (HMs.out.step hb)
                   have HMt6 := Lib.hid (HMt.out.step hb)
                   have HX6 := Lib.hid hx
                   clear hx hb
                   clear c0 c1 c2 c3
                   have c0 := HMs6.out.c0
                   have c1 := HMs6.out.c1
                   have c2 := HMt6.out.c0
                   have c3 := HMt6.out.c1))
              go_ret
              exact ⟨rfl, HMs8.out.b⟩
            · exact absurd ((hsat x).2 hl.1.2) (hno2 x hl.1.1)
          · rcases solve_nice hnice with ⟨y, he2, hl2⟩ | ⟨p, he2, hcp, hno2⟩
            · exact absurd ((hsat y).1 hl2.1.2) (hno y hl2.1.1)
            · have HE := Lib.hid he
              have HE2 := Lib.hid he2
              clear he he2 hnice hsat hno hno2 hc0 hcp
              go_wp2_with (first
                | (go_at_call 17
                   refine (same_c TT TT xA yA 0 xc 0 yc ([] : List Int) ([] : List Int) _ HX7.out HY7.out).mono ?_
                   rw [show decide (([] : List Int) = ([] : List Int)) = true from decide_eq_true rfl]
                   rintro e w8 ⟨rfl, hb⟩
                   have HMs8 := Lib.hid (HMs7.out.step hb)
                   clear hb)
                | (go_at_call 10
                   have _ := HMs6
                   refine (solve_no HMt6.out.top HMt6.out.rows HE2.out).mono ?_
                   rintro e w7 ⟨yA, yc, qA, qn, qc2, rfl, hq, hy, hb⟩
                   have HMs7 := Lib.hid (HMs6.out.step hb)
                   have HX7 := Lib.hid (HX6.out.below hb)
                   have HY7 := Lib.hid hy
                   clear hy hb hq)
                | (go_at_call 10
                   refine (solve_no HMs.out.top HMs.out.rows HE.out).mono ?_
                   rintro e w6 ⟨xA, xc, pA, pn, pc, rfl, hp, hx, hb⟩
                   have HMs6 := Lib.hid (HMs.out.step hb)
                   have HMt6 := Lib.hid (HMt.out.step hb)
                   have HX6 := Lib.hid hx
                   clear hx hb hp
                   clear c0 c1 c2 c3
                   have c0 := HMs6.out.c0
                   have c1 := HMs6.out.c1
                   have c2 := HMt6.out.c0
                   have c3 := HMt6.out.c1))
              go_ret
              exact ⟨rfl, HMs8.out.b⟩

theorem law6_walk (A B : Option Addr) (n c m d : Nat) (s : Sys) (i k : Nat) (hi : i < 256) (hk : k < 256) (w : World) (h : R1 w TT A n c s.1) (h' : RR w TT B m d s.2) :
    Calls Try.prog 6 #[.agg #[.slice A n c, .slice B m d], .int .u8 i, .int .u8 k] w (Gives w (.bool true)) := by
  by_cases h0 : (madeS s).2.length = 0
  · exact law6_none A B n c m d s i k hi hk w h h' h0
  · exact law6_some A B n c m d s i k hi hk w h h' h0

theorem combination_holds : Rows.RowsCombinationSaid :=
  OpenClaim.holds_of_wide 6 Try.f6 rfl rfl rfl rfl rfl rfl rfl ⟨rfl, rfl, rfl, rfl, rfl⟩ rfl rfl rfl rfl rfl (by kernel_rfl) Try.func6 (by kernel_rfl)
    (of_decide_eq_true (by kernel_rfl)) (by unfold Func.isWrapper; rw [if_neg (of_decide_eq_false (by kernel_rfl))]; exact ⟨rfl, rfl⟩)
    (fun os started H enc _ => law_lifted (s := Rows.rowsCombinationSpec) (ts := [25, 5, 5]) os started (by kernel_rfl) Try.func6 (by rw [Try.params6]) (by kernel_rfl) rfl
      (fun ds hd => by
        match ds, hd with
        | [d0, d1, d2], _ => rfl)
      (by intro t ht; simp only [List.mem_cons, List.not_mem_nil, or_false] at ht; rcases ht with rfl | rfl | rfl <;> exact ⟨by kernel_rfl, of_decide_eq_true (by kernel_rfl)⟩)
      (ChangeSpec.witness6 (enc := enc) (C := Try.checked) false ⟨#[], #[.agg #[.slice none 0 0, .slice none 0 0], .int .u8 0, .int .u8 0], []⟩ 6 (by kernel_rfl) (by kernel_rfl) (by kernel_rfl) (by kernel_rfl))
      (fun W args hok => by
        match hargs : args.toList, hok with
        | [v0, v1, v2], ⟨h0, h1, h2, _⟩ =>
          obtain ⟨A, n, c, B, m, d, s, rfl, r1, r2⟩ := h0.1 rfl
          obtain ⟨x, rfl, hx⟩ := h1.2.2.2 rfl
          obtain ⟨y, rfl, hy⟩ := h2.2.2.2 rfl
          have : args = #[.agg #[.slice A n c, .slice B m d], .int .u8 x, .int .u8 y] := by cases args; simp_all
          rw [this]
          exact law6_walk A B n c m d s x y hx hy W r1 r2))

#print axioms combination_holds
end Go.Proofs.Ytjienelkjpodkaa
