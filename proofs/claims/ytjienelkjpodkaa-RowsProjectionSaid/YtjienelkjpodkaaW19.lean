/- Walks: tree. -/
import Derived.Test.YtjienelkjpodkaaW18
import Derived.Deep.CutBlock
namespace Go.Proofs.Ytjienelkjpodkaa
open Go.RowKit

structure TreeMem (w : World) (A : Option Addr) (n c : Nat) (par : List Int) (wr : World) : Prop where
  below : Below w.heap.size w wr
  b1 : Blk wr w.heap.size 29 #[.slice A n c]
  bq : Blk wr (w.heap.size + 1) 3 (pv par)
  b3 : Blk wr (w.heap.size + 2) 22 #[.slice (some ⟨w.heap.size + 1, 0, none⟩) n n]
  bits : eachB par 0 1 = true
  len : par.length = n
theorem TreeMem.belowed {w wr w' : World} {A : Option Addr} {n c : Nat} {par : List Int} (h : TreeMem w A n c par wr) (hb : Below wr.heap.size wr w') : TreeMem w A n c par w' :=
  ⟨h.below.trans (hb.mono h.below.size), h.b1.old hb, h.bq.old hb, h.b3.old hb, h.bits, h.len⟩
theorem TreeMem.only {w wr w' : World} {g : Nat} {A : Option Addr} {n c : Nat} {par : List Int} (h : TreeMem w A n c par wr) (ho : Only g wr w') (hg : w.heap.size + 2 < g) : TreeMem w A n c par w' :=
  ⟨below_only h.below ho (by omega), h.b1.only ho (by omega), h.bq.only ho (by omega), h.b3.only ho (by omega), h.bits, h.len⟩
theorem TreeMem.child {w wr w' : World} {A : Option Addr} {n c : Nat} {par par' : List Int} (h : TreeMem w A n c par wr) (hk : Blk w' (w.heap.size + 1) 3 (pv par')) (ho : Only (w.heap.size + 1) wr w') (hb : eachB par' 0 1 = true) (hl : par'.length = n) : TreeMem w A n c par' w' :=
  ⟨below_only h.below ho (by omega), h.b1.only ho (by omega), hk, h.b3.only ho (by omega), hb, hl⟩

set_option maxRecDepth 100000 in
set_option maxHeartbeats 4000000 in
/-- 'tree'. -/
theorem tree_c (K : Nat → Prop) (A : Option Addr) (n c : Nat) (p : List Step) (w : World) (h : RP w K A n c p) (hn : n ≤ 100000) :
    Calls Try.prog 27 #[.slice A n c] w (Gives w (.bool (treeF p))) := by
  have hln := h.len
  have hc1 := h.cap
  have hbig := h.big
  have H1 := Lib.hid h
  have HR := Lib.hid (show treeFrom n (p.drop 0) 0 (List.replicate n 0) = treeF p by rw [← hln]; rfl)
  have hmf := run_makeFunc
  generalize treeF p = R at *
  clear h
  go_enter Try.func27, Try.ntmps27
  go_wp2_with (refine wpList_makeFull rfl (.tmp 9) (.tmp 9) 22 rfl (.int .i64 0) Try.underlying22 info3 rfl n rfl rfl (by omega) (by omega) ?_
               intro w5 hk hb hs
               have HM0 := Lib.hid (show TreeMem w A n c (List.replicate n 0) (w5.alloc (.cells #[.slice (some ⟨w.heap.size + 1, 0, none⟩) n n] 22)) from by
                 have hb0 : Below w.heap.size w (w.alloc (.cells #[.slice A n c] 29)) := (Below.refl w.heap.size w).alloc (Nat.le_refl _) _
                 have hs5 : w5.heap.size = w.heap.size + 2 := by simpa using hs
                 have hk5 : Blk w5 (w.heap.size + 1) 3 (List.replicate n (Value.int .i64 0)).toArray := by simpa using hk
                 have hk3 := Blk.new w5 22 #[.slice (some ⟨w.heap.size + 1, 0, none⟩) n n]
                 rw [hs5] at hk3
                 refine ⟨(hb0.trans (hb.mono hb0.size)).alloc (by omega) _, ((Blk.new w 29 _).old hb).alloc _, ?_, hk3, by unfold eachB; rw [List.all_replicate]; simp [bet], by simp⟩
                 have := hk5.alloc (.cells #[.slice (some ⟨w.heap.size + 1, 0, none⟩) n n] 22)
                 simpa [pv] using this)
               have hs5 : w5.heap.size = w.heap.size + 2 := by simpa using hs
               have HS5 := Lib.hid hs5
               have c29 : w5.cell? ⟨w.heap.size, 0, none⟩ = some (.slice A n c) := ((Blk.new w 29 _).old hb).cell 0
               clear hk hb hs)
  -- LOOP
  clear c29
  go_loopw [14] (fun s14 wr => ∃ (k : Nat) (par : List Int), k ≤ n ∧ s14 = .int .i64 k ∧ Hid (treeFrom n (p.drop k) k par = R) ∧ TreeMem w A n c par wr) (fun s14 _ => n - (intOf s14).toNat)
  case atStart => exact ⟨0, _, Nat.zero_le _, rfl, HR, HM0.out⟩
  case round =>
    clear HM0 HR hs5
    obtain ⟨k, par, hk, rfl, HRR, hm⟩ := hrel
    obtain ⟨wx, rfl⟩ : ∃ wx : World, wx = wr := ⟨_, rfl⟩
    have HM := Lib.hid hm
    by_cases hlt : k < n
    · obtain ⟨ad, s, mA, mn, mc, rfl, hs, hwf, hR1, hmn, hcells⟩ := (H1.out.below hm.below).step_ hlt
      have HC := Lib.hid hcells
      have HW := Lib.hid hwf
      have HMn := Lib.hid hmn
      have HD := Lib.hid (drop_cons_of hs)
      have hsz := hm.below.size
      have hl3 := hm.b3.lt
      clear hs hwf hR1 hmn hcells hm
      go_upto_block 2 with (refine wpList_load_list rfl 49 (.tmp 17) rfl (ad.add (k * 8)) rfl [.int .i64 s.kind, .slice mA mn mc, .int .i64 s.r, .int .i64 s.d, .int .i64 s.x, .int .i64 s.k, .int .i64 s.next, .int .i64 s.els] HC.out Try.underlying49 rfl size49 ?_)
      have hb6 : Below wx.heap.size wx ((wx.alloc (.cells #[.int .i64 s.kind, .slice mA mn mc, .int .i64 s.r, .int .i64 s.d, .int .i64 s.x, .int .i64 s.k, .int .i64 s.next, .int .i64 s.els] 49)).alloc (.cells #[.int .i64 s.kind, .slice none 0 0, .int .i64 0, .int .i64 0, .int .i64 0, .int .i64 0, .int .i64 s.next, .int .i64 0] 49)) := ((Below.refl wx.heap.size wx).alloc (Nat.le_refl _) _).alloc (by simp) _
      have hk6 := (Blk.new wx 49 #[.int .i64 s.kind, .slice mA mn mc, .int .i64 s.r, .int .i64 s.d, .int .i64 s.x, .int .i64 s.k, .int .i64 s.next, .int .i64 s.els]).alloc (.cells #[.int .i64 s.kind, .slice none 0 0, .int .i64 0, .int .i64 0, .int .i64 0, .int .i64 0, .int .i64 s.next, .int .i64 0] 49)
      have hk7 : Blk ((wx.alloc (.cells #[.int .i64 s.kind, .slice mA mn mc, .int .i64 s.r, .int .i64 s.d, .int .i64 s.x, .int .i64 s.k, .int .i64 s.next, .int .i64 s.els] 49)).alloc (.cells #[.int .i64 s.kind, .slice none 0 0, .int .i64 0, .int .i64 0, .int .i64 0, .int .i64 0, .int .i64 s.next, .int .i64 0] 49)) (wx.heap.size + 1) 49 #[.int .i64 s.kind, .slice none 0 0, .int .i64 0, .int .i64 0, .int .i64 0, .int .i64 0, .int .i64 s.next, .int .i64 0] := by
        have := Blk.new (wx.alloc (.cells #[.int .i64 s.kind, .slice mA mn mc, .int .i64 s.r, .int .i64 s.d, .int .i64 s.x, .int .i64 s.k, .int .i64 s.next, .int .i64 s.els] 49)) 49 #[.int .i64 s.kind, .slice none 0 0, .int .i64 0, .int .i64 0, .int .i64 0, .int .i64 0, .int .i64 s.next, .int .i64 0]
        simpa using this
      generalize (wx.alloc (.cells #[.int .i64 s.kind, .slice mA mn mc, .int .i64 s.r, .int .i64 s.d, .int .i64 s.x, .int .i64 s.k, .int .i64 s.next, .int .i64 s.els] 49)).alloc (.cells #[.int .i64 s.kind, .slice none 0 0, .int .i64 0, .int .i64 0, .int .i64 0, .int .i64 0, .int .i64 s.next, .int .i64 0] 49) = w6 at *
      have HK6 := Lib.hid hk6
      have HK7 := Lib.hid hk7
      have HM6 := Lib.hid (HM.out.belowed hb6)
      have x0 := hk6.cell 0
      have x1 := hk6.cell 1
      have x2 := hk6.cell 2
      have x3 := hk6.cell 3
      have x4 := hk6.cell 4
      have x5 := hk6.cell 5
      have x6 := hk6.cell 6
      have x7 := hk6.cell 7
      have y1 := hk7.cell 1
      have f1 := hk7.frozen 1
      have y2 := hk7.cell 2
      have f2 := hk7.frozen 2
      have y3 := hk7.cell 3
      have f3 := hk7.frozen 3
      have y4 := hk7.cell 4
      have f4 := hk7.frozen 4
      have y5 := hk7.cell 5
      have f5 := hk7.frozen 5
      have y6 := hk7.cell 6
      have f6 := hk7.frozen 6
      have y7 := hk7.cell 7
      have f7 := hk7.frozen 7
      clear hk6 hk7 hb6
      go_cut [14] from 14 to 126 (fun s14 wz => s14 = .int .i64 k ∧ (s.kind = 1 ∨ s.kind = 2 ∨ s.kind = 3 ∨ s.kind = 4) ∧ ∃ qA qc, Blk wz (wx.heap.size + 1) 49 (stepCells (plainS s).kind (.slice qA (plainS s).m.length qc) (plainS s).r (plainS s).d (plainS s).x (plainS s).k (plainS s).next (plainS s).els).toArray ∧ Blk wz wx.heap.size 49 #[.int .i64 s.kind, .slice mA mn mc, .int .i64 s.r, .int .i64 s.d, .int .i64 s.x, .int .i64 s.k, .int .i64 s.next, .int .i64 s.els] ∧ TreeMem w (some ad) n c par wz)
      case first =>
        by_cases hk1 : s.kind = 1
        · have hkd : s.kind = 1 ∨ s.kind = 2 ∨ s.kind = 3 ∨ s.kind = 4 := by omega
          have HPl := Lib.hid (show plainS s = { kind := s.kind, m := s.m, next := s.next } by unfold plainS; simp [hk1])
          have q1 : (s.kind == 1) = true := by simp [hk1]
          have q2 : (s.kind == 2) = false := by simp; omega
          have q3 : (s.kind == 3) = false := by simp; omega
          have q4 : (s.kind == 4) = false := by simp; omega
          have Hkd := Lib.hid hkd
          clear hk1 hkd
          go_wp2_with fail
          go_meet
          case rel => exact ⟨rfl, Hkd.out, mA, mc, by rw [HPl.out]; have hz := (HK7.out.set_ 1 (.slice mA mn mc)); simpa [stepCells, ← HMn.out] using hz, HK6.out.only (Only.setCell _ _ _ _) (by omega), HM6.out.only (Only.setCell _ _ _ _) (by omega)⟩
        by_cases hk2 : s.kind = 2
        · have hkd : s.kind = 1 ∨ s.kind = 2 ∨ s.kind = 3 ∨ s.kind = 4 := by omega
          have HPl := Lib.hid (show plainS s = { kind := s.kind, r := s.r, d := s.d, next := s.next } by unfold plainS; simp [hk2])
          have q1 : (s.kind == 1) = false := by simp; omega
          have q2 : (s.kind == 2) = true := by simp [hk2]
          have q3 : (s.kind == 3) = false := by simp; omega
          have q4 : (s.kind == 4) = false := by simp; omega
          have Hkd := Lib.hid hkd
          clear hk2 hkd
          go_wp2_with fail
          go_region
          all_goals
            go_wp2_with fail
            go_meet
            case rel =>
              first
                | exact ⟨rfl, Hkd.out, none, 0, by rw [HPl.out]; have hz := blk_drew (((HK7.out.set_ 2 (.int .i64 s.r)).set_ 3 (.int .i64 s.d))); simpa [stepCells] using hz, HK6.out.only (((Only.setCell _ _ _ _).trans (Only.setCell _ _ _ _)).drew) (by omega), HM6.out.only (((Only.setCell _ _ _ _).trans (Only.setCell _ _ _ _)).drew) (by omega)⟩
                | exact ⟨rfl, Hkd.out, none, 0, by rw [HPl.out]; have hz := blk_drew (((HK7.out.set_ 3 (.int .i64 s.d)).set_ 2 (.int .i64 s.r))); simpa [stepCells] using hz, HK6.out.only (((Only.setCell _ _ _ _).trans (Only.setCell _ _ _ _)).drew) (by omega), HM6.out.only (((Only.setCell _ _ _ _).trans (Only.setCell _ _ _ _)).drew) (by omega)⟩
        by_cases hk3 : s.kind = 3
        · have hkd : s.kind = 1 ∨ s.kind = 2 ∨ s.kind = 3 ∨ s.kind = 4 := by omega
          have HPl := Lib.hid (show plainS s = { kind := s.kind, x := s.x, k := s.k, next := s.next, els := s.els } by unfold plainS; simp [hk3])
          have q1 : (s.kind == 1) = false := by simp; omega
          have q2 : (s.kind == 2) = false := by simp; omega
          have q3 : (s.kind == 3) = true := by simp [hk3]
          have q4 : (s.kind == 4) = false := by simp; omega
          have Hkd := Lib.hid hkd
          clear hk3 hkd
          go_wp2_with fail
          go_region
          all_goals
            go_wp2_with fail
            go_meet
            case rel =>
              first
                | exact ⟨rfl, Hkd.out, none, 0, by rw [HPl.out]; have hz := blk_drew ((((HK7.out.set_ 4 (.int .i64 s.x)).set_ 5 (.int .i64 s.k)).set_ 7 (.int .i64 s.els))); simpa [stepCells] using hz, HK6.out.only ((((Only.setCell _ _ _ _).trans (Only.setCell _ _ _ _)).trans (Only.setCell _ _ _ _)).drew) (by omega), HM6.out.only ((((Only.setCell _ _ _ _).trans (Only.setCell _ _ _ _)).trans (Only.setCell _ _ _ _)).drew) (by omega)⟩
                | exact ⟨rfl, Hkd.out, none, 0, by rw [HPl.out]; have hz := blk_drew ((((HK7.out.set_ 4 (.int .i64 s.x)).set_ 7 (.int .i64 s.els)).set_ 5 (.int .i64 s.k))); simpa [stepCells] using hz, HK6.out.only ((((Only.setCell _ _ _ _).trans (Only.setCell _ _ _ _)).trans (Only.setCell _ _ _ _)).drew) (by omega), HM6.out.only ((((Only.setCell _ _ _ _).trans (Only.setCell _ _ _ _)).trans (Only.setCell _ _ _ _)).drew) (by omega)⟩
                | exact ⟨rfl, Hkd.out, none, 0, by rw [HPl.out]; have hz := blk_drew ((((HK7.out.set_ 5 (.int .i64 s.k)).set_ 4 (.int .i64 s.x)).set_ 7 (.int .i64 s.els))); simpa [stepCells] using hz, HK6.out.only ((((Only.setCell _ _ _ _).trans (Only.setCell _ _ _ _)).trans (Only.setCell _ _ _ _)).drew) (by omega), HM6.out.only ((((Only.setCell _ _ _ _).trans (Only.setCell _ _ _ _)).trans (Only.setCell _ _ _ _)).drew) (by omega)⟩
                | exact ⟨rfl, Hkd.out, none, 0, by rw [HPl.out]; have hz := blk_drew ((((HK7.out.set_ 5 (.int .i64 s.k)).set_ 7 (.int .i64 s.els)).set_ 4 (.int .i64 s.x))); simpa [stepCells] using hz, HK6.out.only ((((Only.setCell _ _ _ _).trans (Only.setCell _ _ _ _)).trans (Only.setCell _ _ _ _)).drew) (by omega), HM6.out.only ((((Only.setCell _ _ _ _).trans (Only.setCell _ _ _ _)).trans (Only.setCell _ _ _ _)).drew) (by omega)⟩
                | exact ⟨rfl, Hkd.out, none, 0, by rw [HPl.out]; have hz := blk_drew ((((HK7.out.set_ 7 (.int .i64 s.els)).set_ 4 (.int .i64 s.x)).set_ 5 (.int .i64 s.k))); simpa [stepCells] using hz, HK6.out.only ((((Only.setCell _ _ _ _).trans (Only.setCell _ _ _ _)).trans (Only.setCell _ _ _ _)).drew) (by omega), HM6.out.only ((((Only.setCell _ _ _ _).trans (Only.setCell _ _ _ _)).trans (Only.setCell _ _ _ _)).drew) (by omega)⟩
                | exact ⟨rfl, Hkd.out, none, 0, by rw [HPl.out]; have hz := blk_drew ((((HK7.out.set_ 7 (.int .i64 s.els)).set_ 5 (.int .i64 s.k)).set_ 4 (.int .i64 s.x))); simpa [stepCells] using hz, HK6.out.only ((((Only.setCell _ _ _ _).trans (Only.setCell _ _ _ _)).trans (Only.setCell _ _ _ _)).drew) (by omega), HM6.out.only ((((Only.setCell _ _ _ _).trans (Only.setCell _ _ _ _)).trans (Only.setCell _ _ _ _)).drew) (by omega)⟩
        by_cases hk4 : s.kind = 4
        · have hkd : s.kind = 1 ∨ s.kind = 2 ∨ s.kind = 3 ∨ s.kind = 4 := by omega
          have HPl := Lib.hid (show plainS s = { kind := s.kind } by unfold plainS; simp [hk4])
          have q1 : (s.kind == 1) = false := by simp; omega
          have q2 : (s.kind == 2) = false := by simp; omega
          have q3 : (s.kind == 3) = false := by simp; omega
          have q4 : (s.kind == 4) = true := by simp [hk4]
          have Hkd := Lib.hid hkd
          clear hk4 hkd
          go_wp2_with fail
          go_meet
          case rel => exact ⟨rfl, Hkd.out, none, 0, by rw [HPl.out]; have hz := (HK7.out.set_ 6 (.int .i64 0)); simpa [stepCells, ← HMn.out] using hz, HK6.out.only (Only.setCell _ _ _ _) (by omega), HM6.out.only (Only.setCell _ _ _ _) (by omega)⟩
        have HRb := Lib.hid (show R = false by rw [← HRR.out, HD.out, tree_bad (stepOk_false hk1 hk2 hk3 hk4)])
        have q1 : (s.kind == 1) = false := by simp [hk1]
        have q2 : (s.kind == 2) = false := by simp [hk2]
        have q3 : (s.kind == 3) = false := by simp [hk3]
        have q4 : (s.kind == 4) = false := by simp [hk4]
        clear hk1 hk2 hk3 hk4
        go_wp2_with fail
        go_ret
        exact ⟨ret_bool HRb.out.symm, HM6.out.below⟩
      case rest =>
        obtain ⟨rfl, hkd, qA, qc, hk7, hk6, hm8⟩ := hcut
        obtain ⟨w8, rfl⟩ : ∃ w8 : World, w8 = wc := ⟨_, rfl⟩
        have Hkd := Lib.hid hkd
        have HM8 := Lib.hid hm8
        have HK8 := Lib.hid hk6
        have HP := Lib.hid (⟨rfl, rfl, rfl, rfl, rfl, rfl, rfl⟩ : (plainS s).m.length = (plainS s).m.length ∧ (plainS s).r = (plainS s).r ∧ (plainS s).d = (plainS s).d ∧ (plainS s).x = (plainS s).x ∧ (plainS s).k = (plainS s).k ∧ (plainS s).els = (plainS s).els ∧ (plainS s).next = (plainS s).next)
        generalize (plainS s).kind = pkd at *
        obtain ⟨pm, hpm⟩ : ∃ pm, pm = (plainS s).m.length := ⟨_, rfl⟩
        obtain ⟨pr, hpr⟩ : ∃ pr, pr = (plainS s).r := ⟨_, rfl⟩
        obtain ⟨pd, hpd⟩ : ∃ pd, pd = (plainS s).d := ⟨_, rfl⟩
        obtain ⟨px, hpx⟩ : ∃ px, px = (plainS s).x := ⟨_, rfl⟩
        obtain ⟨pk, hpk⟩ : ∃ pk, pk = (plainS s).k := ⟨_, rfl⟩
        obtain ⟨pe, hpe⟩ : ∃ pe, pe = (plainS s).els := ⟨_, rfl⟩
        obtain ⟨pn, hpn⟩ : ∃ pn, pn = (plainS s).next := ⟨_, rfl⟩
        rw [← hpm, ← hpr, ← hpd, ← hpx, ← hpk, ← hpe, ← hpn] at hk7
        have hk7 : Blk w8 (wx.heap.size + 1) 49 #[.int .i64 pkd, .slice qA pm qc, .int .i64 pr, .int .i64 pd, .int .i64 px, .int .i64 pk, .int .i64 pn, .int .i64 pe] := hk7
        clear HP
        have HP := Lib.hid (And.intro hpm (And.intro hpr (And.intro hpd (And.intro hpx (And.intro hpk (And.intro hpe hpn))))))
        clear hpm hpr hpd hpx hpk hpe hpn hkd hm8 x0 x1 x2 x3 x4 x5 x6 x7 y1 f1 y2 f2 y3 f3 y4 f4 y5 f5 y6 f6 y7 f7
        have x0 := hk6.cell 0
        have x1 := hk6.cell 1
        have x2 := hk6.cell 2
        have x3 := hk6.cell 3
        have x4 := hk6.cell 4
        have x5 := hk6.cell 5
        have x6 := hk6.cell 6
        have x7 := hk6.cell 7
        have y1 := hk7.cell 1
        have y2 := hk7.cell 2
        have y3 := hk7.cell 3
        have y4 := hk7.cell 4
        have y5 := hk7.cell 5
        have y6 := hk7.cell 6
        have y7 := hk7.cell 7
        clear hk6 hk7
        by_cases hc0 : (pm : Int) = (mn : Int)
        rotate_left
        · have HRb := Lib.hid (show R = false by
            rw [← HRR.out, HD.out, tree_bad]
            cases hso : stepOk s with
            | false => rfl
            | true =>
              have hi := (stepOk_iff Hkd.out).1 hso
              have hmm := HMn.out
              have hpp := HP.out
              omega)
          have e0 : ((pm : Int) != (mn : Int)) = true := by simp [hc0]
          have e0' : (pm != mn) = true := by simp; omega
          clear hc0
          go_wp2_with fail
          go_ret
          exact ⟨ret_bool HRb.out.symm, HM8.out.below⟩
        have e0 : ((pm : Int) != (mn : Int)) = false := by simp [hc0]
        have e0' : (pm != mn) = false := by simp; omega
        have Hc0 := Lib.hid hc0
        clear hc0
        by_cases hc1 : pr = s.r
        rotate_left
        · have HRb := Lib.hid (show R = false by
            rw [← HRR.out, HD.out, tree_bad]
            cases hso : stepOk s with
            | false => rfl
            | true =>
              have hi := (stepOk_iff Hkd.out).1 hso
              have hmm := HMn.out
              have hpp := HP.out
              omega)
          have e1 : (pr != s.r) = true := by simp [hc1]
          clear hc1
          go_wp2_with fail
          go_ret
          exact ⟨ret_bool HRb.out.symm, HM8.out.below⟩
        have e1 : (pr != s.r) = false := by simp [hc1]
        have Hc1 := Lib.hid hc1
        clear hc1
        by_cases hc2 : pd = s.d
        rotate_left
        · have HRb := Lib.hid (show R = false by
            rw [← HRR.out, HD.out, tree_bad]
            cases hso : stepOk s with
            | false => rfl
            | true =>
              have hi := (stepOk_iff Hkd.out).1 hso
              have hmm := HMn.out
              have hpp := HP.out
              omega)
          have e2 : (pd != s.d) = true := by simp [hc2]
          clear hc2
          go_wp2_with fail
          go_ret
          exact ⟨ret_bool HRb.out.symm, HM8.out.below⟩
        have e2 : (pd != s.d) = false := by simp [hc2]
        have Hc2 := Lib.hid hc2
        clear hc2
        by_cases hc3 : px = s.x
        rotate_left
        · have HRb := Lib.hid (show R = false by
            rw [← HRR.out, HD.out, tree_bad]
            cases hso : stepOk s with
            | false => rfl
            | true =>
              have hi := (stepOk_iff Hkd.out).1 hso
              have hmm := HMn.out
              have hpp := HP.out
              omega)
          have e3 : (px != s.x) = true := by simp [hc3]
          clear hc3
          go_wp2_with fail
          go_ret
          exact ⟨ret_bool HRb.out.symm, HM8.out.below⟩
        have e3 : (px != s.x) = false := by simp [hc3]
        have Hc3 := Lib.hid hc3
        clear hc3
        by_cases hc4 : pk = s.k
        rotate_left
        · have HRb := Lib.hid (show R = false by
            rw [← HRR.out, HD.out, tree_bad]
            cases hso : stepOk s with
            | false => rfl
            | true =>
              have hi := (stepOk_iff Hkd.out).1 hso
              have hmm := HMn.out
              have hpp := HP.out
              omega)
          have e4 : (pk != s.k) = true := by simp [hc4]
          clear hc4
          go_wp2_with fail
          go_ret
          exact ⟨ret_bool HRb.out.symm, HM8.out.below⟩
        have e4 : (pk != s.k) = false := by simp [hc4]
        have Hc4 := Lib.hid hc4
        clear hc4
        by_cases hc5 : pe = s.els
        rotate_left
        · have HRb := Lib.hid (show R = false by
            rw [← HRR.out, HD.out, tree_bad]
            cases hso : stepOk s with
            | false => rfl
            | true =>
              have hi := (stepOk_iff Hkd.out).1 hso
              have hmm := HMn.out
              have hpp := HP.out
              omega)
          have e5 : (pe != s.els) = true := by simp [hc5]
          clear hc5
          go_wp2_with fail
          go_ret
          exact ⟨ret_bool HRb.out.symm, HM8.out.below⟩
        have e5 : (pe != s.els) = false := by simp [hc5]
        have Hc5 := Lib.hid hc5
        clear hc5
        by_cases hc6 : pn = s.next
        rotate_left
        · have HRb := Lib.hid (show R = false by
            rw [← HRR.out, HD.out, tree_bad]
            cases hso : stepOk s with
            | false => rfl
            | true =>
              have hi := (stepOk_iff Hkd.out).1 hso
              have hmm := HMn.out
              have hpp := HP.out
              omega)
          have e6 : (pn != s.next) = true := by simp [hc6]
          clear hc6
          go_wp2_with fail
          go_ret
          exact ⟨ret_bool HRb.out.symm, HM8.out.below⟩
        have e6 : (pn != s.next) = false := by simp [hc6]
        have Hc6 := Lib.hid hc6
        clear hc6
        have Hso := Lib.hid (show stepOk s = true from (stepOk_iff Hkd.out).2 (by have := HP.out; have := HMn.out; have := Hc0.out; have := Hc1.out; have := Hc2.out; have := Hc3.out; have := Hc4.out; have := Hc5.out; have := Hc6.out; omega))
        by_cases hk4 : s.kind = 4
        · have HRN := Lib.hid (show treeFrom n (p.drop (k + 1)) (k + 1) par = R by rw [← HRR.out, HD.out, tree_close Hso.out hk4])
          have q4 : (s.kind != 4) = false := by simp [hk4]
          have q3 : (s.kind == 3) = false := by simp [hk4]
          clear hk4
          go_wp2_with fail
          go_roundw
          case rel => exact ⟨k + 1, par, by omega, by go_num, HRN, HM8.out⟩
          case measure => simp [intOf]; omega
        have q4 : (s.kind != 4) = true := by simp [hk4]
        rcases hc1f : childF n k s.next par with _ | par1
        · have Hc1f := Lib.hid hc1f
          have HRb := Lib.hid (show R = false by rw [← HRR.out, HD.out, tree_none hk4 hc1f])
          clear hk4 hc1f
          go_wp2_with (first
            | (go_at_call 40
               refine (child_c (w.heap.size + 1) w.heap.size (w.heap.size + 2) n k c (some ad) s.next par w8 HM8.out.b1 HM8.out.b3 HM8.out.bq HM8.out.len HM8.out.bits (by omega) HW.out.next (by omega)).mono ?_
               unfold ChildPost
               rw [Hc1f.out]
               rintro e w9 ⟨rfl, par', hq9, ho9, hp9⟩
               have HB9 := Lib.hid (below_only HM8.out.below ho9 (by omega))
               clear hq9 ho9 hp9 x0 x1 x2 x3 x4 x5 x6 x7 y1 y2 y3 y4 y5 y6 y7))
          go_ret
          exact ⟨ret_bool HRb.out.symm, HB9.out⟩
        · have Hc1f := Lib.hid hc1f
          by_cases hk3 : s.kind = 3
          · have q3 : (s.kind == 3) = true := by simp [hk3]
            rcases hc2f : childF n k s.els par1 with _ | par2
            · have Hc2f := Lib.hid hc2f
              have HRb := Lib.hid (show R = false by rw [← HRR.out, HD.out, tree_two_none hk3 hc1f hc2f])
              clear hk4 hc1f hk3 hc2f
              go_wp2_with (first
                | (have _ := HM9
                   go_at_call 40
                   refine (child_c (w.heap.size + 1) w.heap.size (w.heap.size + 2) n k c (some ad) s.els par' w9 HM9.out.b1 HM9.out.b3 HM9.out.bq HM9.out.len HM9.out.bits (by omega) HW.out.els (by omega)).mono ?_
                   unfold ChildPost
                   rw [Hc2f.out]
                   rintro e w10 ⟨rfl, par'', hq10, ho10, hp10⟩
                   have HB10 := Lib.hid (below_only HM9.out.below ho10 (by omega))
                   clear hq10 ho10 hp10)
                | (go_at_call 40
                   refine (child_c (w.heap.size + 1) w.heap.size (w.heap.size + 2) n k c (some ad) s.next par w8 HM8.out.b1 HM8.out.b3 HM8.out.bq HM8.out.len HM8.out.bits (by omega) HW.out.next (by omega)).mono ?_
                   unfold ChildPost
                   rw [Hc1f.out]
                   rintro e w9 ⟨rfl, par', hq9, ho9, hp9⟩
                   obtain rfl := hp9 par1 rfl
                   have HM9 := Lib.hid (HM8.out.child hq9 ho9 (child_bits Hc1f.out HM8.out.bits).1 (by rw [(child_bits Hc1f.out HM8.out.bits).2]; exact HM8.out.len))
                   have hk9 := HK8.out.only ho9 (by omega)
                   clear x0 x1 x2 x3 x4 x5 x6 x7 y1 y2 y3 y4 y5 y6 y7
                   have z0 := hk9.cell 0
                   have z7 := hk9.cell 7
                   clear hq9 ho9 hp9 hk9))
              go_ret
              exact ⟨ret_bool HRb.out.symm, HB10.out⟩
            · have Hc2f := Lib.hid hc2f
              have HRN := Lib.hid (show treeFrom n (p.drop (k + 1)) (k + 1) par2 = R by rw [← HRR.out, HD.out, tree_two Hso.out hk3 hc1f hc2f])
              clear hk4 hc1f hk3 hc2f
              go_wp2_with (first
                | (have _ := HM9
                   go_at_call 40
                   refine (child_c (w.heap.size + 1) w.heap.size (w.heap.size + 2) n k c (some ad) s.els par' w9 HM9.out.b1 HM9.out.b3 HM9.out.bq HM9.out.len HM9.out.bits (by omega) HW.out.els (by omega)).mono ?_
                   unfold ChildPost
                   rw [Hc2f.out]
                   rintro e w10 ⟨rfl, par'', hq10, ho10, hp10⟩
                   obtain rfl := hp10 par2 rfl
                   have HM10 := Lib.hid (HM9.out.child hq10 ho10 (child_bits Hc2f.out HM9.out.bits).1 (by rw [(child_bits Hc2f.out HM9.out.bits).2]; exact HM9.out.len))
                   clear hq10 ho10 hp10)
                | (go_at_call 40
                   refine (child_c (w.heap.size + 1) w.heap.size (w.heap.size + 2) n k c (some ad) s.next par w8 HM8.out.b1 HM8.out.b3 HM8.out.bq HM8.out.len HM8.out.bits (by omega) HW.out.next (by omega)).mono ?_
                   unfold ChildPost
                   rw [Hc1f.out]
                   rintro e w9 ⟨rfl, par', hq9, ho9, hp9⟩
                   obtain rfl := hp9 par1 rfl
                   have HM9 := Lib.hid (HM8.out.child hq9 ho9 (child_bits Hc1f.out HM8.out.bits).1 (by rw [(child_bits Hc1f.out HM8.out.bits).2]; exact HM8.out.len))
                   have hk9 := HK8.out.only ho9 (by omega)
                   clear x0 x1 x2 x3 x4 x5 x6 x7 y1 y2 y3 y4 y5 y6 y7
                   have z0 := hk9.cell 0
                   have z7 := hk9.cell 7
                   clear hq9 ho9 hp9 hk9))
              go_roundw
              case rel => exact ⟨k + 1, par'', by omega, by go_num, HRN, HM10.out⟩
              case measure => simp [intOf]; omega
          · have q3 : (s.kind == 3) = false := by simp [hk3]
            have HRN := Lib.hid (show treeFrom n (p.drop (k + 1)) (k + 1) par1 = R by rw [← HRR.out, HD.out, tree_one Hso.out hk4 hk3 hc1f])
            clear hk4 hc1f hk3
            go_wp2_with (first
              | (go_at_call 40
                 refine (child_c (w.heap.size + 1) w.heap.size (w.heap.size + 2) n k c (some ad) s.next par w8 HM8.out.b1 HM8.out.b3 HM8.out.bq HM8.out.len HM8.out.bits (by omega) HW.out.next (by omega)).mono ?_
                 unfold ChildPost
                 rw [Hc1f.out]
                 rintro e w9 ⟨rfl, par', hq9, ho9, hp9⟩
                 obtain rfl := hp9 par1 rfl
                 have HM9 := Lib.hid (HM8.out.child hq9 ho9 (child_bits Hc1f.out HM8.out.bits).1 (by rw [(child_bits Hc1f.out HM8.out.bits).2]; exact HM8.out.len))
                 have hk9 := HK8.out.only ho9 (by omega)
                 clear x0 x1 x2 x3 x4 x5 x6 x7 y1 y2 y3 y4 y5 y6 y7
                 have z0 := hk9.cell 0
                 have z7 := hk9.cell 7
                 clear hq9 ho9 hp9 hk9))
            go_roundw
            case rel => exact ⟨k + 1, par', by omega, by go_num, HRN, HM9.out⟩
            case measure => simp [intOf]; omega
    · obtain rfl : n = k := by omega
      have hr := HRR.out
      rw [List.drop_eq_nil_of_le (by omega), treeFrom] at hr
      have Hr := Lib.hid hr
      clear hr hm
      go_wp2_with fail
      go_ret
      exact ⟨ret_bool (by rw [Hr.out]), HM.out.below⟩
end Go.Proofs.Ytjienelkjpodkaa
