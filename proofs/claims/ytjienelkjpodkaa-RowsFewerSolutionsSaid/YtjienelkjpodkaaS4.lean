/- The law RowsFewerSolutions: for every input it gives true and leaves its arguments as they were.
   Conditions: none beyond the row's own (readable arguments within the form's reach). -/
import Derived.Test.YtjienelkjpodkaaL20
import Derived.Test.YtjienelkjpodkaaS1
namespace Go.Proofs.Ytjienelkjpodkaa
open Go.ChangeShapes Go.WideShapes Go.ChangeAt Go.RowKit

set_option maxRecDepth 100000 in
set_option maxHeartbeats 4000000 in
theorem law5_walk (A B MA : Option Addr) (n c m d mn mc : Nat) (s : Sys) (more : Row) (w : World) (h : R1 w TT A n c s.1) (h' : RR w TT B m d s.2) (hm1 : R1 w TT MA mn mc more.1) (hm2' : I64 more.2) :
    Calls Try.prog 5 #[.agg #[.slice A n c, .slice B m d], .agg #[.slice MA mn mc, .int .i64 more.2]] w (Gives w (.bool true)) := by
  have H1 := Lib.hid h
  have H2 := Lib.hid h'
  have H3 := Lib.hid hm1
  have HI3 := Lib.hid hm2'
  have HB0 := Lib.hid (show Below w.heap.size w ((w.alloc (.cells #[.slice A n c, .slice B m d] 25)).alloc (.cells #[.slice MA mn mc, .int .i64 more.2] 37)) from ((Below.refl _ _).alloc (Nat.le_refl _) _).alloc (by simp) _)
  have HK0 := Lib.hid ((Blk.new w 25 #[.slice A n c, .slice B m d]).alloc (.cells #[.slice MA mn mc, .int .i64 more.2] 37))
  have HJ0 := Lib.hid (show Blk ((w.alloc (.cells #[.slice A n c, .slice B m d] 25)).alloc (.cells #[.slice MA mn mc, .int .i64 more.2] 37)) (w.heap.size + 1) 37 #[.slice MA mn mc, .int .i64 more.2] from by simpa using Blk.new (w.alloc (.cells #[.slice A n c, .slice B m d] 25)) 37 #[.slice MA mn mc, .int .i64 more.2])
  have c0 := HK0.out.cell 0
  have c1 := HK0.out.cell 1
  clear h h' hm1 hm2'
  go_enter Try.func5, Try.ntmps5
  go_upto_region 3 with (first
    | (go_at_call 9
       refine (made_c TT A B n c m d s _ (H1.out.below HB1.out) (H2.out.below HB1.out)).mono ?_
       rintro e w2 ⟨TA, tn, tc, RA, rm, rd, rfl, r1, r2, hb⟩
       have HB2 := Lib.hid (HB1.out.trans (hb.mono HB1.out.size))
       have HJ2 := Lib.hid (HJ1.out.old hb)
       have HM3 := Lib.hid (LMem.start (t := madeS s) HB2.out r1 r2)
       have hn2 := r1.len
       have hm2 := r2.len
       have hnc2 := r1.cap
       have hmc2 := r2.cap
       clear r1 r2 hb c0 c1)
    | (go_at_call 8
       refine (sanity_c _).mono ?_
       rintro e w1 ⟨rfl, hb⟩
       have HB1 := Lib.hid (HB0.out.trans (hb.mono HB0.out.size))
       have HJ1 := Lib.hid (HJ0.out.old hb)
       have hk1 := HK0.out.old hb
       clear c0 c1
       have c0 := hk1.cell 0
       have c1 := hk1.cell 1
       clear hb hk1))
  have HB3 := Lib.hid (show Below w2.heap.size w2 (w2.alloc (.cells #[.slice TA tn tc, .slice RA rm rd] 25)) from (Below.refl _ _).alloc (Nat.le_refl _) _)
  have HJ3 := Lib.hid (HJ2.out.old HB3.out)
  have hg6 : w2.heap.size < (w2.alloc (.cells #[.slice TA tn tc, .slice RA rm rd] 25)).heap.size := by simp
  clear HB3
  generalize w2.alloc (.cells #[.slice TA tn tc, .slice RA rm rd] 25) = w3 at *
  generalize w2.heap.size = g6 at *
  have ht4 : tn ≤ 4 := by have := (made_top s).2.1; omega
  have hm6 : rm ≤ 6 := by have := made_len s; omega
  have HC := Lib.hid (fun (W : World) (hb : Below w3.heap.size w3 W) => show W.cell? ⟨g6, 0, none⟩ = some (.slice TA tn tc) ∧ W.cell? ⟨g6, 1, none⟩ = some (.slice RA rm rd) from ⟨(HM3.out.k.old hb).cell 0, (HM3.out.k.old hb).cell 1⟩)
  have BA := Lib.hid (show Below w3.heap.size w3 (w3.alloc (.cells #[] 37)).drew from ((Below.refl _ _).alloc (Nat.le_refl _) _).drew)
  have BB := Lib.hid (show Below w3.heap.size w3 ((w3.alloc (.cells #[] 37)).alloc (.cells #[.slice none 0 0, .slice none 0 0] 25)).drew from (((Below.refl _ _).alloc (Nat.le_refl _) _).alloc (by simp) _).drew)
  have BC := Lib.hid (show Below w3.heap.size w3 ((w3.alloc (.cells #[.slice none 0 0, .slice none 0 0] 25)).alloc (.cells #[] 37)).drew from (((Below.refl _ _).alloc (Nat.le_refl _) _).alloc (by simp) _).drew)
  have OA := Lib.hid (show OwnS (w3.alloc (.cells #[] 37)).drew w3.heap.size 37 2 (some ⟨w3.heap.size, 0, none⟩) 0 0 [] from (OwnS.lit 37 2 0 #[] (Nat.le_refl _) (by omega) rfl).below ((Below.refl _ _).drew))
  have OB := Lib.hid (show OwnS ((w3.alloc (.cells #[] 37)).alloc (.cells #[.slice none 0 0, .slice none 0 0] 25)).drew w3.heap.size 37 2 (some ⟨w3.heap.size, 0, none⟩) 0 0 [] from ((OwnS.lit 37 2 0 #[] (Nat.le_refl _) (by omega) rfl).alloc _).below ((Below.refl _ _).drew))
  have OC := Lib.hid (show OwnS ((w3.alloc (.cells #[.slice none 0 0, .slice none 0 0] 25)).alloc (.cells #[] 37)).drew w3.heap.size 37 2 (some ⟨w3.heap.size + 1, 0, none⟩) 0 0 [] from by
    have := OwnS.lit (w := w3.alloc (.cells #[.slice none 0 0, .slice none 0 0] 25)) (base := w3.heap.size) 37 2 0 #[] (by simp) (by omega) rfl
    have := this.below ((Below.refl _ _).drew)
    simpa using this)
  have KB := Lib.hid (show Blk ((w3.alloc (.cells #[] 37)).alloc (.cells #[.slice none 0 0, .slice none 0 0] 25)).drew (w3.heap.size + 1) 25 #[.slice none 0 0, .slice none 0 0] from by
    have := Blk.new (w3.alloc (.cells #[] 37)) 25 #[.slice none 0 0, .slice none 0 0]
    simpa using blk_drew this)
  have KC := Lib.hid (show Blk ((w3.alloc (.cells #[.slice none 0 0, .slice none 0 0] 25)).alloc (.cells #[] 37)).drew w3.heap.size 25 #[.slice none 0 0, .slice none 0 0] from blk_drew ((Blk.new w3 25 _).alloc _))
  have RW := Lib.hid (fun (W : World) (hb : Below w3.heap.size w3 W) => (HM3.out.rows.weak (K' := fun k => k < w3.heap.size) fun k hk _ => hk).below hb)
  go_cut [7] from 16 to 83 (fun s7 wz => ∃ g7 QA qc, s7 = .pointer (some ⟨g7, 0, none⟩) ∧ TMem w3 g7 (.slice TA tn tc) QA rm qc (madeS s).2 wz)
  case first =>
    go_region_held3 (fun w' => w'.cell? ⟨g6, 0, none⟩ = some (.slice TA tn tc) ∧ w'.cell? ⟨g6, 1, none⟩ = some (.slice RA rm rd))
      (first
        | exact HC.out _ ((Below.refl w3.heap.size w3).drew)
        | exact HC.out _ BA.out
        | exact HC.out _ BB.out
        | exact HC.out _ BC.out
        | exact HC.out _ (((Below.refl w3.heap.size w3).alloc (Nat.le_refl _) _).drew)
        | exact HC.out _ HB8.out
        | exact HC.out _ (HB8.out.alloc HB8.out.size _)
        | exact HC.out _ ((HB8.out.setCell (by first | exact Nat.le_refl _ | exact HB8.out.size | (simp <;> omega)) _).setCell (by first | exact Nat.le_refl _ | exact HB8.out.size | (simp <;> omega)) _)
        | exact HC.out _ (((HB8.out.alloc HB8.out.size _).setCell (by first | exact Nat.le_refl _ | exact HB8.out.size | (simp <;> omega)) _).setCell (by first | exact Nat.le_refl _ | exact HB8.out.size | (simp <;> omega)) _))
      (first
        | (refine step_rowsTo rfl (.tmp 21) (.tmp 23) 23 rfl app23 w3.heap.size w3.heap.size rfl OA.out RA rm rd (madeS s).2 rfl (RW.out _ BA.out) (by omega) BA.out.size ?_
           intro QA qc w8 hO hg
           have HR8 := Lib.hid hO
           have HB8 := Lib.hid (BA.out.grown hg BA.out.size (fun k hk => by cases hk; exact Nat.le_refl _))
           clear hO hg)
        | (refine step_rowsTo rfl (.tmp 21) (.tmp 23) 23 rfl app23 w3.heap.size w3.heap.size rfl OB.out RA rm rd (madeS s).2 rfl (RW.out _ BB.out) (by omega) BB.out.size ?_
           intro QA qc w8 hO hg
           have HR8 := Lib.hid hO
           have HB8 := Lib.hid (BB.out.grown hg BB.out.size (fun k hk => by cases hk; exact Nat.le_refl _))
           have HK8 := Lib.hid (KB.out.grown hg (by simp))
           have q0 := HK8.out.cell 0
           have q1 := HK8.out.cell 1
           have f0 := HK8.out.frozen 0
           have f1 := HK8.out.frozen 1
           clear hO hg)
        | (refine step_rowsTo rfl (.tmp 21) (.tmp 23) 23 rfl app23 w3.heap.size (w3.heap.size + 1) rfl OC.out RA rm rd (madeS s).2 rfl (RW.out _ BC.out) (by omega) BC.out.size ?_
           intro QA qc w8 hO hg
           have HR8 := Lib.hid hO
           have HB8 := Lib.hid (BC.out.grown hg BC.out.size (fun k hk => by cases hk; omega))
           have HK8 := Lib.hid (KC.out.grown hg (by simp))
           have q0 := HK8.out.cell 0
           have q1 := HK8.out.cell 1
           have f0 := HK8.out.frozen 0
           have f1 := HK8.out.frozen 1
           clear hO hg))
    all_goals
      go_wp2_with fail
      go_meet
      case rel =>
        refine ⟨_, QA, qc, rfl, ?_⟩
        first
          | exact TMem.fresh HB8.out HR8.out
          | exact TMem.store (by first | exact Nat.le_refl _ | omega) HB8.out HK8.out HR8.out
  case rest =>
    clear BA BB BC OA OB OC KB KC RW
    obtain ⟨g7, QA, qc, rfl, hT⟩ := hcut
    obtain ⟨w4, rfl⟩ : ∃ w4 : World, w4 = wc := ⟨_, rfl⟩
    have HT4 := Lib.hid hT
    have t1a := hT.c1
    clear hT
    have HS := Lib.hid (fun (W : World) (hb : Below w3.heap.size w3 W) (hT : TMem w3 g7 (.slice TA tn tc) QA rm qc (madeS s).2 W) => show (W.cell? ⟨w.heap.size + 1, 0, none⟩ = some (.slice MA mn mc) ∧ W.cell? ⟨w.heap.size + 1, 1, none⟩ = some (.int .i64 more.2) ∧ W.cell? ⟨g6, 0, none⟩ = some (.slice TA tn tc) ∧ W.cell? ⟨g7, 1, none⟩ = some (.slice QA rm qc)) from ⟨(HJ3.out.old hb).cell 0, (HJ3.out.old hb).cell 1, (HM3.out.k.old hb).cell 0, hT.c1⟩)
    go_upto_region 4 with fail
    go_cut [7] from 16 to 83 (fun s7 wz => s7 = .pointer (some ⟨g7, 0, none⟩) ∧ ∃ QA' qc', TMem w3 g7 (.slice TA tn tc) QA' (rm + 1) qc' ((madeS s).2 ++ [madeRow more tn]) wz)
    case first =>
      have HT4d := Lib.hid (HT4.out.step ((Below.refl _ _).drew))
      have H3d := Lib.hid (H3.out.below (HM3.out.b.trans (HT4d.out.b.mono HM3.out.b.size)))
      refine wp_region_reads (by kernel_rfl) 6 9 [.pointer (some ⟨g7, 1, none⟩), .slice QA rm qc, .agg #[.slice MA mn mc, .int .i64 more.2], .pointer (some ⟨g6, 0, none⟩), .slice TA tn tc, .int .i64 tn] (fun W => W.cell? ⟨w.heap.size + 1, 0, none⟩ = some (.slice MA mn mc) ∧ W.cell? ⟨w.heap.size + 1, 1, none⟩ = some (.int .i64 more.2) ∧ W.cell? ⟨g6, 0, none⟩ = some (.slice TA tn tc) ∧ W.cell? ⟨g7, 1, none⟩ = some (.slice QA rm qc)) (by decide +kernel) (fun _ _ d _ _ h => by cases d <;> exact h) (HS.out _ HT4d.out.b HT4d.out) (fun W hS => ?_) ?_
      · obtain ⟨s1, s2, s3, s4⟩ := hS
        dsimp only [List.take]
        repeat (refine ⟨by go_simp, ?_⟩; simp only [Act.put, List.setIfInBounds_toArray, List.set_cons_zero, List.set_cons_succ])
        exact trivial
      dsimp only [List.take, List.drop, putL]
      simp only [Act.put, List.setIfInBounds_toArray, List.set_cons_zero, List.set_cons_succ]
      refine chain_step #[] rfl (step_call rfl 16 #[.agg #[.slice MA mn mc, .int .i64 more.2], .int .i64 tn] (by go_simp) ((madeRow_c TT MA mn mc tn more.1 more.2 w4.drew H3d.out HI3.out (by omega)).mono ?_))
      rintro e w5 ⟨_, _, rfl, ⟨A4, n4, c4, rfl, rfl, hR4, hI4⟩, hb4⟩
      have HT5 := Lib.hid (HT4d.out.step hb4)
      have HT5a := Lib.hid (HT5.out.step ((Below.refl w5.heap.size w5).alloc (Nat.le_refl _) (.cells #[.slice A4 n4 c4, .int .i64 (madeRow (more.1, more.2) tn).2] 37)))
      have HR5 := Lib.hid (RowIn.far HT5a.out.r (RowIn.old (show RowIn w5 (fun k => w4.heap.size ≤ k) (.slice A4 n4 c4) (.int .i64 (madeRow (more.1, more.2) tn).2) (madeRow (more.1, more.2) tn) from ⟨A4, n4, c4, rfl, rfl, hR4, hI4⟩) (Old.of_below ((Below.refl w5.heap.size w5).alloc (Nat.le_refl _) (.cells #[.slice A4 n4 c4, .int .i64 (madeRow (more.1, more.2) tn).2] 37)))) (fun j hj => (HT4.out.r.lt j hj).2))
      clear hR4 hI4 hb4
      refine ⟨_, rfl, fun _ => HS.out _ HT5.out.b HT5.out, ?_⟩
      simp only [Act.put, List.setIfInBounds_toArray, List.set_cons_zero, List.set_cons_succ]
      refine chain_val (w' := w5.alloc (.cells #[.slice A4 n4 c4, .int .i64 (madeRow (more.1, more.2) tn).2] 37)) (.slice (some ⟨w5.heap.size, 0, none⟩) 1 1) (by go_simp) (fun _ => HS.out _ HT5a.out.b HT5a.out) ?_
      simp only [Act.put, List.setIfInBounds_toArray, List.set_cons_zero, List.set_cons_succ]
      refine chain_step #[] rfl (step_pushR rfl (.tmp 27) (.tmp 33) 23 rfl app23 w3.heap.size QA rm qc _ rfl HT5a.out.r w5.heap.size (.slice A4 n4 c4) (.int .i64 (madeRow (more.1, more.2) tn).2) (madeRow (more.1, more.2) tn) rfl (Blk.new w5 37 _) HR5.out (by omega) HT5a.out.b.size ?_)
      intro Q2 qc2 w8 hR8 hgr
      have HB8 := Lib.hid (HT5a.out.b.grown hgr HT5a.out.b.size (fun k hk => (HT5a.out.r.lt k hk).1))
      have HK8 := Lib.hid (HT5a.out.k.grown hgr (by obtain ⟨us, h1, _⟩ := HT5a.out.r.ex; exact ownS_ne_blk h1 HT5a.out.k (by decide)))
      have HT9 := Lib.hid (TMem.rows_ HT4.out.lo HB8.out HK8.out hR8)
      have q1 := HK8.out.cell 1
      have f1 := HK8.out.frozen 1
      have s1 := (HJ3.out.old HB8.out).cell 0
      have s2 := (HJ3.out.old HB8.out).cell 1
      have s3 := (HM3.out.k.old HB8.out).cell 0
      clear hR8 hgr
      refine ⟨fun _ => ⟨s1, s2, s3, q1⟩, ?_⟩
      simp only [Act.put, List.setIfInBounds_toArray, List.set_cons_zero, List.set_cons_succ]
      clear s1 s2 s3
      refine chain_val (w' := w8) (.pointer (some ⟨g7, 1, none⟩)) (by go_simp) (fun h => absurd h (by decide)) ?_
      simp only [Act.put, List.setIfInBounds_toArray, List.set_cons_zero, List.set_cons_succ]
      dsimp only [chainW]
      go_simp
      go_wp2_with fail
      go_meet
      case rel => exact ⟨rfl, Q2, qc2, HT9.out⟩
    case rest =>
      clear t1a HC HS
      obtain ⟨rfl, QA', qc', hT⟩ := hcut
      obtain ⟨w5, rfl⟩ : ∃ w5 : World, w5 = wc := ⟨_, rfl⟩
      obtain ⟨hd1, hd2⟩ := hT.done HM3.out (by omega)
      have HMt := Lib.hid hd1
      have HMs := Lib.hid hd2
      have hnice : Nice ((madeS s).1, (madeS s).2 ++ [madeRow more tn]) := (made_nice s).with_ (by simp; omega) (fun r hr => by
        rcases List.mem_append.1 hr with hr | hr
        · exact (made_nice s).row r hr
        · rw [List.mem_singleton.1 hr, ← hn2]; exact madeRow_n more _)
      have himp : ∀ z, Sat ((madeS s).2 ++ [madeRow more tn]) z → Sat (madeS s).2 z := fun z hz r hr => hz r (List.mem_append_left _ hr)
      have c0 := hd2.c0
      have c1 := hd2.c1
      have c2 := hd1.c0
      have c3 := hd1.c1
      clear hT hd1 hd2
      rcases solve_nice (made_nice s) with ⟨x, he, hl⟩ | ⟨p0, he, hc0, hno⟩
      · have HE := Lib.hid he
        have HL := Lib.hid hl
        rcases solve_nice hnice with ⟨y, he2, hl2⟩ | ⟨p, he2, hcp, _⟩
        · have HE2 := Lib.hid he2
          have HL2 := Lib.hid hl2
          have HLs := Lib.hid (hl.2 y hl2.1.1 (himp y hl2.1.2))
          clear he he2 hl hl2 hnice himp
          go_wp2_with (first
            | (go_at_call 15
               refine (less_c TT TT yA xA tn yc xc y x _ HY7.out HX7.out).mono ?_
               rw [HLs.out]
               rintro e w8 ⟨rfl, hb⟩
               have HMs8 := Lib.hid (HMs7.out.step hb)
               clear hb)
            | (go_at_call 10
               have _ := HMs6
               refine (solve_yes HMt6.out.top HMt6.out.rows HE2.out (HL2.out.1.1.1.trans hn2)).mono ?_
               rintro e w7 ⟨yA, yc, qA, qc2, rfl, hy, hb⟩
               have HMs7 := Lib.hid (HMs6.out.step hb)
               have HMt7 := Lib.hid (HMt6.out.step hb)
               have HX7 := Lib.hid (HX6.out.below hb)
               have HY7 := Lib.hid hy
               clear hy hb
               clear c0 c1 c2 c3
               have c0 := HMs7.out.c0
               have c1 := HMs7.out.c1
               have c2 := HMt7.out.c0
               have c3 := HMt7.out.c1)
            | (go_at_call 10
               refine (solve_yes HMs.out.top HMs.out.rows HE.out (HL.out.1.1.1.trans hn2)).mono ?_
               rintro e w6 ⟨xA, xc, pA, pc, rfl, hx, hb⟩
               have HMs6 := Lib.hid (HMs.out.step hb)
               have HMt6 := Lib.hid (HMt.out.step hb)
               have HX6 := Lib.hid hx
               clear hx hb
               clear c0 c1 c2 c3
               have c0 := HMs6.out.c0
               have c1 := HMs6.out.c1
               have c2 := HMt6.out.c0
               have c3 := HMt6.out.c1))
          go_ret
          exact ⟨rfl, HMs8.out.b⟩
        · have HE2 := Lib.hid he2
          have HCp := Lib.hid hcp
          clear he he2 hl hcp hnice himp
          go_wp2_with (first
            | (go_at_call 12
               refine (check_yes HMt7.out.top HMt7.out.rows HQ7.out HCp.out).mono ?_
               rintro e w8 ⟨rfl, hb⟩
               have HMs8 := Lib.hid (HMs7.out.step hb)
               have HMt8 := Lib.hid (HMt7.out.step hb)
               clear hb)
            | (go_at_call 10
               have _ := HMs6
               refine (solve_no HMt6.out.top HMt6.out.rows HE2.out).mono ?_
               rintro e w7 ⟨yA, yc, qA, qn, qc2, rfl, hq, hy, hb⟩
               have HMs7 := Lib.hid (HMs6.out.step hb)
               have HMt7 := Lib.hid (HMt6.out.step hb)
               have HQ7 := Lib.hid hq
               clear hy hb hq
               clear c0 c1 c2 c3
               have c0 := HMs7.out.c0
               have c1 := HMs7.out.c1
               have c2 := HMt7.out.c0
               have c3 := HMt7.out.c1)
            | (go_at_call 10
               refine (solve_yes HMs.out.top HMs.out.rows HE.out (HL.out.1.1.1.trans hn2)).mono ?_
               rintro e w6 ⟨xA, xc, pA, pc, rfl, hx, hb⟩
               have HMs6 := Lib.hid (HMs.out.step hb)
               have HMt6 := Lib.hid (HMt.out.step hb)
               have HX6 := Lib.hid hx
               clear hx hb
               clear c0 c1 c2 c3
               have c0 := HMs6.out.c0
               have c1 := HMs6.out.c1
               have c2 := HMt6.out.c0
               have c3 := HMt6.out.c1))
          go_ret
          exact ⟨rfl, HMs8.out.b⟩
      · have HE := Lib.hid he
        rcases solve_nice hnice with ⟨y, he2, hl2⟩ | ⟨p, he2, hcp, _⟩
        · exact absurd (himp y hl2.1.2) (hno y hl2.1.1)
        · have HE2 := Lib.hid he2
          have HCp := Lib.hid hcp
          clear he he2 hcp hnice himp hno hc0
          go_wp2_with (first
            | (go_at_call 12
               refine (check_yes HMt7.out.top HMt7.out.rows HQ7.out HCp.out).mono ?_
               rintro e w8 ⟨rfl, hb⟩
               have HMs8 := Lib.hid (HMs7.out.step hb)
               have HMt8 := Lib.hid (HMt7.out.step hb)
               clear hb)
            | (go_at_call 10
               have _ := HMs6
               refine (solve_no HMt6.out.top HMt6.out.rows HE2.out).mono ?_
               rintro e w7 ⟨yA, yc, qA, qn, qc2, rfl, hq, hy, hb⟩
               have HMs7 := Lib.hid (HMs6.out.step hb)
               have HMt7 := Lib.hid (HMt6.out.step hb)
               have HQ7 := Lib.hid hq
               clear hy hb hq
               clear c0 c1 c2 c3
               have c0 := HMs7.out.c0
               have c1 := HMs7.out.c1
               have c2 := HMt7.out.c0
               have c3 := HMt7.out.c1)
            | (go_at_call 10
               refine (solve_no HMs.out.top HMs.out.rows HE.out).mono ?_
               rintro e w6 ⟨xA, xc, pA, pn, pc, rfl, hp, hx, hb⟩
               have HMs6 := Lib.hid (HMs.out.step hb)
               have HMt6 := Lib.hid (HMt.out.step hb)
               have HX6 := Lib.hid hx
               clear hx hb hp
               clear c0 c1 c2 c3
               have c0 := HMs6.out.c0
               have c1 := HMs6.out.c1
               have c2 := HMt6.out.c0
               have c3 := HMt6.out.c1))
          go_ret
          exact ⟨rfl, HMs8.out.b⟩

theorem fewer_holds : Rows.RowsFewerSolutionsSaid :=
  OpenClaim.holds_of_wide 5 Try.f5 rfl rfl rfl rfl rfl rfl rfl ⟨rfl, rfl, rfl, rfl, rfl⟩ rfl rfl rfl rfl rfl (by kernel_rfl) Try.func5 (by kernel_rfl)
    (of_decide_eq_true (by kernel_rfl)) (by unfold Func.isWrapper; rw [if_neg (of_decide_eq_false (by kernel_rfl))]; exact ⟨rfl, rfl⟩)
    (fun os started H enc _ => law_lifted (s := Rows.rowsFewerSolutionsSpec) (ts := [25, 37]) os started (by kernel_rfl) Try.func5 (by rw [Try.params5]) (by kernel_rfl) rfl
      (fun ds hd => by
        match ds, hd with
        | [d0, d1], _ => rfl)
      (by intro t ht; simp only [List.mem_cons, List.not_mem_nil, or_false] at ht; rcases ht with rfl | rfl <;> exact ⟨by kernel_rfl, of_decide_eq_true (by kernel_rfl)⟩)
      (ChangeSpec.witness6 (enc := enc) (C := Try.checked) false ⟨#[], #[.agg #[.slice none 0 0, .slice none 0 0], .agg #[.slice none 0 0, .int .i64 0]], []⟩ 5 (by kernel_rfl) (by kernel_rfl) (by kernel_rfl) (by kernel_rfl))
      (fun W args hok => by
        match hargs : args.toList, hok with
        | [v0, v1], ⟨h0, h1, _⟩ =>
          obtain ⟨A, n, c, B, m, d, s, rfl, r1, r2⟩ := h0.1 rfl
          obtain ⟨P, pn, pc, r, rfl, r3, r4⟩ := h1.2.1 rfl
          have : args = #[.agg #[.slice A n c, .slice B m d], .agg #[.slice P pn pc, .int .i64 r.2]] := by cases args; simp_all
          rw [this]
          exact law5_walk A B P n c m d pn pc s r W r1 r2 r3 r4))

#print axioms fewer_holds
end Go.Proofs.Ytjienelkjpodkaa
