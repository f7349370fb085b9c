/- Walks: sanity. -/
import Derived.Test.YtjienelkjpodkaaW29
namespace Go.Proofs.Ytjienelkjpodkaa
open Go.RowKit
set_option maxRecDepth 100000 in
set_option maxHeartbeats 8000000 in
/-- 'sanity'. -/
theorem sanity_c (w : World) : Calls Try.prog 8 #[] w (Gives w (.bool true)) := by
  go_enter Try.func8, Try.ntmps8
  go_upto_region 4 with fail
  have hm := san_mem w
  generalize ((((((((((((w.alloc (.cells #[.int .i64 3, .int .i64 3] 3)).alloc (.cells #[.int .i64 1, .int .i64 1] 3)).alloc (.cells #[.int .i64 1, .int .i64 (-1)] 3)).alloc (.cells #[.slice (some ⟨w.heap.size + 1, 0, none⟩) 2 2, .int .i64 (-4), .slice (some ⟨w.heap.size + 1 + 1, 0, none⟩) 2 2, .int .i64 0] 37)).alloc (.cells #[.slice (some ⟨w.heap.size, 0, none⟩) 2 2, .slice (some ⟨w.heap.size + 1 + 1 + 1, 0, none⟩) 2 2] 25)).alloc (.cells #[.int .i64 5] 3)).alloc (.cells #[.int .i64 2] 3)).alloc (.cells #[.int .i64 (-2)] 3)).alloc (.cells #[.slice (some ⟨w.heap.size + 1 + 1 + 1 + 1 + 1 + 1, 0, none⟩) 1 1, .int .i64 (-3), .slice (some ⟨w.heap.size + 1 + 1 + 1 + 1 + 1 + 1 + 1, 0, none⟩) 1 1, .int .i64 3] 37)).alloc (.cells #[.slice (some ⟨w.heap.size + 1 + 1 + 1 + 1 + 1, 0, none⟩) 1 1, .slice (some ⟨w.heap.size + 1 + 1 + 1 + 1 + 1 + 1 + 1 + 1, 0, none⟩) 2 2] 25)).alloc (.cells #[.int .i64 0, .int .i64 1, .int .i64 0, .int .i64 0, .int .i64 2] 3)).alloc (.cells #[.int .i64 2, .slice none 0 0, .int .i64 0, .int .i64 2, .int .i64 0, .int .i64 0, .int .i64 1, .int .i64 0, .int .i64 1, .slice (some ⟨w.heap.size + 1 + 1 + 1 + 1 + 1 + 1 + 1 + 1 + 1 + 1, 0, none⟩) 5 5, .int .i64 0, .int .i64 0, .int .i64 0, .int .i64 0, .int .i64 2, .int .i64 0, .int .i64 4, .slice none 0 0, .int .i64 0, .int .i64 0, .int .i64 0, .int .i64 0, .int .i64 0, .int .i64 0] 49)) = w0 at hm ⊢
  generalize w.heap.size + 1 + 1 + 1 + 1 + 1 + 1 + 1 + 1 + 1 + 1 + 1 = g11 at hm ⊢
  generalize w.heap.size + 1 + 1 + 1 + 1 + 1 + 1 + 1 + 1 + 1 + 1 = g10 at hm ⊢
  generalize w.heap.size + 1 + 1 + 1 + 1 + 1 + 1 + 1 + 1 + 1 = g9 at hm ⊢
  generalize w.heap.size + 1 + 1 + 1 + 1 + 1 + 1 + 1 + 1 = g8 at hm ⊢
  generalize w.heap.size + 1 + 1 + 1 + 1 + 1 + 1 + 1 = g7 at hm ⊢
  generalize w.heap.size + 1 + 1 + 1 + 1 + 1 + 1 = g6 at hm ⊢
  generalize w.heap.size + 1 + 1 + 1 + 1 + 1 = g5 at hm ⊢
  generalize w.heap.size + 1 + 1 + 1 + 1 = g4 at hm ⊢
  generalize w.heap.size + 1 + 1 + 1 = g3 at hm ⊢
  generalize w.heap.size + 1 + 1 = g2 at hm ⊢
  generalize w.heap.size + 1 = g1 at hm ⊢
  have hs : SanW w w.heap.size g1 g3 g4 g5 g8 g9 g11 w0 := ⟨hm.1, hm.2.1, hm.2.2.1, hm.2.2.2⟩
  have HS0 := Lib.hid hs
  clear hm hs
  have d0 := HS0.out.c40
  have d1 := HS0.out.c41
  have d2 := HS0.out.c90
  have d3 := HS0.out.c91
  go_upto_region 10 with (first
    | (go_at_call 10
       have _ := HS5
       refine (san_s6 HS5.out).mono ?_
       rintro e w6 ⟨b6, f6, h6, rfl, hb, hs⟩
       have HS6 := Lib.hid hs
       have HX6 := Lib.hid (HX5.out.below hb)
       have HQ6 := Lib.hid (HQ5.out.below hb)
       clear hb
       clear hs d0 d1 d2 d3
       have d0 := HS6.out.c40
       have d1 := HS6.out.c41
       have d2 := HS6.out.c90
       have d3 := HS6.out.c91)
    | (go_at_call 10
       have _ := HS4
       refine (san_s5 HS4.out).mono ?_
       rintro e w5 ⟨b5, f5, h5, rfl, hb, hs⟩
       have HS5 := Lib.hid hs
       have HX5 := Lib.hid (HX4.out.below hb)
       have HQ5 := Lib.hid (HQ4.out.below hb)
       clear hb
       clear hs d0 d1 d2 d3
       have d0 := HS5.out.c40
       have d1 := HS5.out.c41
       have d2 := HS5.out.c90
       have d3 := HS5.out.c91)
    | (go_at_call 18
       have _ := HS3
       refine (san_s4 HS3.out).mono ?_
       rintro e w4 ⟨b4, f4, rfl, hb, hs⟩
       have HS4 := Lib.hid hs
       have HX4 := Lib.hid (HX3.out.below hb)
       have HQ4 := Lib.hid (HQ3.out.below hb)
       clear hb
       clear hs d0 d1 d2 d3
       have d0 := HS4.out.c40
       have d1 := HS4.out.c41
       have d2 := HS4.out.c90
       have d3 := HS4.out.c91)
    | (go_at_call 18
       have _ := HS2
       refine (san_s3 HS2.out).mono ?_
       rintro e w3 ⟨rfl, hb, hs⟩
       have HS3 := Lib.hid hs
       have HX3 := Lib.hid (HX2.out.below hb)
       have HQ3 := Lib.hid (HQ2.out.below hb)
       clear hb
       clear hs d0 d1 d2 d3
       have d0 := HS3.out.c40
       have d1 := HS3.out.c41
       have d2 := HS3.out.c90
       have d3 := HS3.out.c91)
    | (go_at_call 10
       have _ := HS1
       refine (san_s2 HS1.out).mono ?_
       rintro e w2 ⟨x2, n2, c2, q2, m2, e2, rfl, hq, hb, hs⟩
       have HS2 := Lib.hid hs
       have HX2 := Lib.hid (HX1.out.below hb)
       have HQ2 := Lib.hid hq
       clear hb hq
       clear hs d0 d1 d2 d3
       have d0 := HS2.out.c40
       have d1 := HS2.out.c41
       have d2 := HS2.out.c90
       have d3 := HS2.out.c91)
    | (go_at_call 10
       have _ := HS0
       refine (san_s1 HS0.out).mono ?_
       rintro e w1 ⟨x1, n1, c1, q1, m1, e1, rfl, hx, hs⟩
       have HS1 := Lib.hid hs
       have HX1 := Lib.hid hx
       clear hx
       clear hs d0 d1 d2 d3
       have d0 := HS1.out.c40
       have d1 := HS1.out.c41
       have d2 := HS1.out.c90
       have d3 := HS1.out.c91))
  dsimp only [List.append]
  refine wp_region_lst (N := 92) (by kernel_rfl) (by rfl) ?_
  have HS7 := Lib.hid HS6.out.drew
  have HX7 := Lib.hid (HX6.out.below ((Below.refl _ _).drew))
  have HQ7 := Lib.hid (HQ6.out.below ((Below.refl _ _).drew))
  change wpAny _ _ _ _ _ _ _ w6.drew
  generalize w6.drew = w7 at HS7 HX7 HQ7 ⊢
  clear d0 d1 d2 d3
  have d0 := HS7.out.c40
  have d1 := HS7.out.c41
  have d2 := HS7.out.c90
  have d3 := HS7.out.c91
  refine wpAny_seg (by rfl) 0 35 57 [false, false, false, false, false, false, false, false, false, false, false, false, false, false, false, false, false, false, false, true, false, false, false, true, false, false, false, true] (by decide +kernel) (fun _ _ d _ _ h => by cases d <;> exact h) ?_
  dsimp only [List.drop, List.take, sw]
  go_wp2_with (first
    | (go_at_call 12
       have _ := HS10
       refine (san_c3 HS10.out).mono ?_
       rintro e w11 ⟨rfl, hs⟩
       have HS11 := Lib.hid hs
       clear hs d0 d1 d2 d3
       have d0 := HS11.out.c40
       have d1 := HS11.out.c41
       have d2 := HS11.out.c90
       have d3 := HS11.out.c91)
    | (go_at_call 12
       have _ := HS9
       refine (san_c2 HS9.out).mono ?_
       rintro e w10 ⟨rfl, hs⟩
       have HS10 := Lib.hid hs
       clear hs d0 d1 d2 d3
       have d0 := HS10.out.c40
       have d1 := HS10.out.c41
       have d2 := HS10.out.c90
       have d3 := HS10.out.c91)
    | (go_at_call 12
       have _ := HS8
       refine (san_c1 HS8.out HQ8.out).mono ?_
       rintro e w9 ⟨rfl, hs⟩
       have HS9 := Lib.hid hs
       clear hs d0 d1 d2 d3
       have d0 := HS9.out.c40
       have d1 := HS9.out.c41
       have d2 := HS9.out.c90
       have d3 := HS9.out.c91)
    | (go_at_call 17
       have _ := HS7
       refine (san_same HS7.out HX7.out).mono ?_
       rintro e w8 ⟨rfl, hb, hs⟩
       have HS8 := Lib.hid hs
       have HQ8 := Lib.hid (HQ7.out.below hb)
       clear hb
       clear hs d0 d1 d2 d3
       have d0 := HS8.out.c40
       have d1 := HS8.out.c41
       have d2 := HS8.out.c90
       have d3 := HS8.out.c91))
  change wpAny _ _ _ _ _ _ _ _
  refine wpAny_win2 (w' := w11) 35 54 35 [36, 37] 121 [122, 123] [.slice (some ⟨g11, 0, none⟩) 3 3, .slice (some ⟨g11, 0, none⟩) 2 3] (.agg #[.slice (some ⟨g5, 0, none⟩) 1 1, .slice (some ⟨g8, 0, none⟩) 2 2]) (by decide +kernel) ⟨⟨_, rfl, by kernel_rfl, (move_run rfl _ _).trans (by kernel_rfl)⟩, ⟨_, rfl, by kernel_rfl, run_sliceTo rfl (by kernel_rfl) _⟩, trivial⟩ ⟨⟨_, rfl, by kernel_rfl, (move_run rfl _ _).trans (by kernel_rfl)⟩, ⟨_, rfl, by kernel_rfl, run_sliceTo rfl (by kernel_rfl) _⟩, trivial⟩
    ⟨_, rfl, by kernel_rfl, run_load_two 25 (.tmp 2) rfl ⟨g9, 0, none⟩ (by kernel_rfl) _ _ HS11.out.c90 HS11.out.c91 Try.underlying25 (by kernel_rfl)⟩ ?_
  dsimp only [putDs]
  refine wpAny_seg (N := 92) (by rfl) 38 27 27 [] (by decide +kernel) (fun _ _ d _ _ h => by cases d <;> exact h) ?_
  dsimp only [List.drop, List.take, sw]
  go_wp2_with (first
    | (go_at_call 12
       have _ := HS11
       refine (san_c4 HS11.out).mono ?_
       rintro e w12 ⟨rfl, hs⟩
       have HS12 := Lib.hid hs
       clear hs d0 d1 d2 d3
       have d0 := HS12.out.c40
       have d1 := HS12.out.c41
       have d2 := HS12.out.c90
       have d3 := HS12.out.c91))
  change wpAny _ _ _ _ _ _ _ _
  refine wpAny_win2 (w' := (w12.alloc (.cells #[.int .i64 2, .int .i64 2] 3))) 65 22 69 [65, 66, 67, 68] 155 [151, 152, 153, 154] [.pointer (some ⟨g4, 1, none⟩), .slice (some ⟨g3, 0, none⟩) 2 2, .pointer (some ⟨g3, 0, none⟩), .agg #[.slice (some ⟨g1, 0, none⟩) 2 2, .int .i64 (-4)]] (.slice (some ⟨w12.heap.size, 0, none⟩) 2 2) (by decide +kernel)
    ⟨⟨_, rfl, by kernel_rfl, run_field4 rfl (by kernel_rfl) w12⟩, ⟨_, rfl, by kernel_rfl, run_load_cell 23 (.tmp 151) rfl ⟨g4, 1, none⟩ (by kernel_rfl) _ HS12.out.c41 Try.underlying23⟩, ⟨_, rfl, by kernel_rfl, run_index3 rfl (by kernel_rfl) w12⟩, ⟨_, rfl, by kernel_rfl, run_load_two 37 (.tmp 153) rfl ⟨g3, 0, none⟩ (by kernel_rfl) _ _ HS12.out.c30 HS12.out.c31 Try.underlying37 (by kernel_rfl)⟩, trivial⟩
    ⟨⟨_, rfl, by kernel_rfl, run_field4 rfl (by kernel_rfl) (w12.alloc (.cells #[.int .i64 2, .int .i64 2] 3))⟩, ⟨_, rfl, by kernel_rfl, run_load_cell 23 (.tmp 151) rfl ⟨g4, 1, none⟩ (by kernel_rfl) _ (HS12.out.alloc (.cells #[.int .i64 2, .int .i64 2] 3)).c41 Try.underlying23⟩, ⟨_, rfl, by kernel_rfl, run_index3 rfl (by kernel_rfl) (w12.alloc (.cells #[.int .i64 2, .int .i64 2] 3))⟩, ⟨_, rfl, by kernel_rfl, run_load_two 37 (.tmp 153) rfl ⟨g3, 0, none⟩ (by kernel_rfl) _ _ (HS12.out.alloc (.cells #[.int .i64 2, .int .i64 2] 3)).c30 (HS12.out.alloc (.cells #[.int .i64 2, .int .i64 2] 3)).c31 Try.underlying37 (by kernel_rfl)⟩, trivial⟩
    ⟨_, rfl, by kernel_rfl, run_two22 2 rfl w12⟩ ?_
  dsimp only [putDs]
  refine wpAny_seg (N := 92) (by rfl) 70 3 19 [] (by decide +kernel) (fun _ _ d _ _ h => by cases d <;> exact h) ?_
  dsimp only [List.drop, List.take, sw]
  go_wp2_with (first
    | (go_at_call 13
       have _ := HS12
       refine (san_h1 HS12.out).mono ?_
       rintro e w13 ⟨rfl, hs⟩
       have HS13 := Lib.hid hs
       clear hs d0 d1 d2 d3
       have d0 := HS13.out.c40
       have d1 := HS13.out.c41
       have d2 := HS13.out.c90
       have d3 := HS13.out.c91))
  change wpAny _ _ _ _ _ _ _ _
  refine wpAny_win2 (w' := (w13.alloc (.cells #[.int .i64 2, .int .i64 1] 3))) 73 14 77 [73, 74, 75, 76] 163 [159, 160, 161, 162] [.pointer (some ⟨g4, 1, none⟩), .slice (some ⟨g3, 0, none⟩) 2 2, .pointer (some ⟨g3, 0, none⟩), .agg #[.slice (some ⟨g1, 0, none⟩) 2 2, .int .i64 (-4)]] (.slice (some ⟨w13.heap.size, 0, none⟩) 2 2) (by decide +kernel)
    ⟨⟨_, rfl, by kernel_rfl, run_field4 rfl (by kernel_rfl) w13⟩, ⟨_, rfl, by kernel_rfl, run_load_cell 23 (.tmp 159) rfl ⟨g4, 1, none⟩ (by kernel_rfl) _ HS13.out.c41 Try.underlying23⟩, ⟨_, rfl, by kernel_rfl, run_index3 rfl (by kernel_rfl) w13⟩, ⟨_, rfl, by kernel_rfl, run_load_two 37 (.tmp 161) rfl ⟨g3, 0, none⟩ (by kernel_rfl) _ _ HS13.out.c30 HS13.out.c31 Try.underlying37 (by kernel_rfl)⟩, trivial⟩
    ⟨⟨_, rfl, by kernel_rfl, run_field4 rfl (by kernel_rfl) (w13.alloc (.cells #[.int .i64 2, .int .i64 1] 3))⟩, ⟨_, rfl, by kernel_rfl, run_load_cell 23 (.tmp 159) rfl ⟨g4, 1, none⟩ (by kernel_rfl) _ (HS13.out.alloc (.cells #[.int .i64 2, .int .i64 1] 3)).c41 Try.underlying23⟩, ⟨_, rfl, by kernel_rfl, run_index3 rfl (by kernel_rfl) (w13.alloc (.cells #[.int .i64 2, .int .i64 1] 3))⟩, ⟨_, rfl, by kernel_rfl, run_load_two 37 (.tmp 161) rfl ⟨g3, 0, none⟩ (by kernel_rfl) _ _ (HS13.out.alloc (.cells #[.int .i64 2, .int .i64 1] 3)).c30 (HS13.out.alloc (.cells #[.int .i64 2, .int .i64 1] 3)).c31 Try.underlying37 (by kernel_rfl)⟩, trivial⟩
    ⟨_, rfl, by kernel_rfl, run_two22 1 rfl w13⟩ ?_
  dsimp only [putDs]
  refine wpAny_seg (N := 92) (by rfl) 78 14 0 [] (by decide +kernel) (fun _ _ d _ _ h => by cases d <;> exact h) ?_
  dsimp only [List.drop, List.take, sw]
  go_wp2_with (first
    | (go_at_call 11
       have _ := HS15
       refine (san_v2 HS15.out).mono ?_
       rintro e w16 ⟨rfl, hs⟩
       have HS16 := Lib.hid hs
       clear hs d0 d1 d2 d3
       have d0 := HS16.out.c40
       have d1 := HS16.out.c41
       have d2 := HS16.out.c90
       have d3 := HS16.out.c91)
    | (go_at_call 11
       have _ := HS14
       refine (san_v1 HS14.out).mono ?_
       rintro e w15 ⟨rfl, hs⟩
       have HS15 := Lib.hid hs
       clear hs d0 d1 d2 d3
       have d0 := HS15.out.c40
       have d1 := HS15.out.c41
       have d2 := HS15.out.c90
       have d3 := HS15.out.c91)
    | (go_at_call 13
       have _ := HS13
       refine (san_h2 HS13.out).mono ?_
       rintro e w14 ⟨rfl, hs⟩
       have HS14 := Lib.hid hs
       clear hs d0 d1 d2 d3
       have d0 := HS14.out.c40
       have d1 := HS14.out.c41
       have d2 := HS14.out.c90
       have d3 := HS14.out.c91))
  change wpAny _ _ _ _ _ _ _ _
  refine ⟨by decide +kernel, ?_⟩
  go_wp2
  go_ret
  exact ⟨rfl, HS16.out.b⟩
end Go.Proofs.Ytjienelkjpodkaa
