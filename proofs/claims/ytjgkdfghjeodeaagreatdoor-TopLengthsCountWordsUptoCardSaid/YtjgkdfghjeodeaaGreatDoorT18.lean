/- automaton.table.canonical. -/
import Derived.Test.YtjgkdfghjeodeaaGreatDoorT14
import Derived.Test.YtjgkdfghjeodeaaGreatDoorT15
import Derived.Test.YtjgkdfghjeodeaaGreatDoorT16
namespace Go.Proofs.YtjgkdfghjeodeaaGreatDoor
open Go.RowKit

theorem zero28 (w : World) : (zeroValue 28).run Tryz.prog w = .ok (.agg #[.slice none 0 0, .slice none 0 0, .slice none 0 0]) w := by kernel_rfl
theorem one3 (a b c : Option Addr) (n1 n2 n3 c1 c2 c3 : Nat) : (#[.slice a n1 c1, .slice b n2 c2, .slice c n3 c3] : Array Value).all (·.oneCell') = true := by simp [Value.oneCell']
/-- what canonical has in hand ahead of its loops -/
structure CI (w w5 : World) (cs : Array Value) (t : Tbl) (Ab : Option Addr) (cb : Nat) (block : List Nat) (Ar : Option Addr) (cr : Nat) (reps : List Nat) (Ac : Option Addr) (cc : Nat) (cells : List Nat) (Am : Option Addr) (cm : Nat) (classes : List Nat) : Prop where
  below : Below w.heap.size w w5
  tab : Blk w5 w.heap.size 73 cs
  res : Blk w5 (w.heap.size + 1) 28 #[.slice none 0 0, .slice none 0 0, .slice none 0 0]
  bk : RN w5 TT Ab t.nxt.length cb block
  rp : RN w5 TT Ar reps.length cr reps
  cl : RN w5 TT Ac cells.length cc cells
  cm : RC w5 (fun k => w.heap.size + 1 < k) Am classes.length cm classes
theorem rowl_set (row : List Nat) (C k x : Nat) (hk : row.length = k) (h : k < C) : (row ++ List.replicate (C - row.length) 0).set k x = (row ++ [x]) ++ List.replicate (C - (row ++ [x]).length) 0 := by
  subst hk
  rw [List.set_append_right _ _ (Nat.le_refl _), Nat.sub_self, List.length_append, List.length_singleton, show C - row.length = (C - (row.length + 1)) + 1 by omega, List.replicate_succ, List.set_cons_zero, List.append_assoc]
  rfl
theorem lt_mono {a b : Nat} {l : List Nat} (h : Lt a l) (hab : a ≤ b) : Lt b l := fun x hx => Nat.lt_of_lt_of_le (h x hx) hab

set_option maxRecDepth 100000 in
set_option maxHeartbeats 4000000 in
theorem canonical_c (K : Nat → Prop) (cs : Array Value) (t : Tbl) (w : World) (hR : RT w K cs t) (hw : WT t) : Calls Tryz.prog 75 #[.agg cs] w
    fun e w' => ∃ v, e = .returned v ∧ RD w' (fun k => w.heap.size ≤ k) v (canonical t) ∧ Below w.heap.size w w' := by
  have hsz := hR.size
  obtain ⟨A2, A3, c2, c3, hcs, hrr, hrl3, hcl3, hce, _⟩ := tab_fields hR
  have hcap := hrr.cap
  have hcap3 := hrl3.cap
  have HF := Lib.hid (show cs[257]? = some (.slice A2 t.nxt.length c2) ∧ cs[258]? = some (.slice A3 t.nxt.length c3) from ⟨by rw [hcs, tcells_257 hcl3], by rw [hcs, tcells_258 hcl3, hw.acc]⟩)
  have HRR := Lib.hid (And.intro hrr hrl3)
  clear hcs hrr hrl3 hcl3
  have HR := Lib.hid hR
  have HW := Lib.hid hw
  have hrs := reached_spec hw.pos fun r hr => (hw.row r hr).2
  have hrl := nodup_le _ _ hrs.nd hrs.lt
  have htop := hw.top
  obtain ⟨l, hl⟩ : ∃ l, reached t.nxt = l := ⟨_, rfl⟩
  rw [hl] at hrs hrl
  have hcb : CB t (refine t l).1 (refine t l).2 := by rw [← hl]; exact canonical_cb hw
  have hblt : Lt 4098 (refine t l).1 := refine_lt (by omega)
  have HCan := Lib.hid (show canonical t = canonB t (refine t l).1 (refine t l).2 by rw [← hl]; rfl)
  have HRe := Lib.hid (And.intro hrs (And.intro hcb (And.intro hblt hl)))
  clear hR hw hrs hcb hblt hl
  go_enter Tryz.func75, Tryz.ntmps75
  go_upto_region 1 with (first
    | (with_reducible refine at_oper (.box 73 (.tmp 0)) rfl ?_
       refine wpList_box_rowG w.heap.size rfl rfl 73 (.tmp 0) rfl cs rfl ?_
       intro w1 k1 b1 s1)
    | (with_reducible refine at_oper (.alloc 28) rfl ?_
       refine wpList_alloc_rowG (w.heap.size + 1) s1 rfl 28 rfl _ zero28 ?_
       intro w2 k2 b2 s2))
  have HB2 := Lib.hid (show Below w.heap.size w w2.drew ∧ Blk w2.drew w.heap.size 73 cs ∧ Blk w2.drew (w.heap.size + 1) 28 #[.slice none 0 0, .slice none 0 0, .slice none 0 0] from ⟨(b1.trans (b2.mono b1.size)).drew, blk_drew (k1.old b2), k2⟩)
  refine wp_region_ws (by kernel_rfl) [true, true, false, false, true, true, true, true, true] 9 (fun W => Blk W w.heap.size 73 cs) (by decide +kernel) (fun _ _ d _ _ h => by cases d <;> exact h) HB2.out.2.1 ?_
  clear k1 k2 b1 b2
  iterate 2 (refine ws_r ?_ (fun W hS => ?_) ?_; rotate_left; (focus (refine run_load_blk 73 (.tmp 1) ?_ w.heap.size ?_ 73 cs _ hS Tryz.underlying73 rfl (by rw [hsz]; exact size73) <;> rfl)); simp only [Act.put, List.setIfInBounds_toArray, List.set_cons_zero, List.set_cons_succ])
  refine ws_c ?_
  generalize w2.drew = wd at *
  go_wp2_with (first
    | (go_at_call 113
       refine (reached_c K cs t wd (HR.out.below HB2.out.1) HW.out).mono ?_
       rintro e w3 ⟨Al, cl, rfl, own3, b3⟩
       rw [HRe.out.2.2.2] at own3 ⊢
       have HO3 := Lib.hid (own3.rn (by omega) (lt_mono HRe.out.1.lt (by omega)))
       have HB3 := Lib.hid b3
       clear own3 b3))
  dsimp only [segQ]
  refine ⟨fun _ => HB2.out.2.1.old HB3.out, ws_c ?_⟩
  go_wp2_with (first
    | (go_at_call 112
       refine (refine_c K _ cs t Al cl l w3 ((HR.out.below HB2.out.1).below HB3.out) HW.out HO3.out HRe.out.1.lt HRe.out.1.nd).mono ?_
       rintro e w4 ⟨gb, Ar, cr, rfl, hgb, kb, own4, b4⟩
       obtain ⟨block, hbk⟩ : ∃ block, (refine t l).1 = block := ⟨_, rfl⟩
       obtain ⟨reps, hrp⟩ : ∃ reps, (refine t l).2 = reps := ⟨_, rfl⟩
       have hce := HRe.out.2.1
       rw [hbk, hrp] at hce
       rw [hbk] at kb
       rw [hrp] at own4
       rw [hrp]
       have HCE := Lib.hid (And.intro hbk (And.intro hrp hce))
       have HBk := Lib.hid ((kb.rn hce.bl (by omega) (lt_mono (by rw [← hbk]; exact HRe.out.2.2.1) (by omega))).weak (K' := TT) fun _ _ _ => trivial)
       have HRp := Lib.hid ((own4.rn (by have := hce.rl; omega) (lt_mono hce.rs (by omega))).weak (K' := TT) fun _ _ _ => trivial)
       have HB4 := Lib.hid (show Below w.heap.size w w4 ∧ Blk w4 w.heap.size 73 cs ∧ Blk w4 (w.heap.size + 1) 28 #[.slice none 0 0, .slice none 0 0, .slice none 0 0] from
         ⟨(HB2.out.1.trans (HB3.out.mono HB2.out.1.size)).trans (b4.mono (HB2.out.1.trans (HB3.out.mono HB2.out.1.size)).size), (HB2.out.2.1.old HB3.out).old b4, (HB2.out.2.2.old HB3.out).old b4⟩)
       clear kb own4 b4 hce hbk hrp))
  dsimp only [segQ]
  refine ⟨fun _ => HB4.out.2.1, ?_⟩
  iterate 5 (refine ws_r ?_ (fun W hS => ?_) ?_; rotate_left; (focus (clear hS; go_simp; first | done | rfl)); simp only [Act.put, List.setIfInBounds_toArray, List.set_cons_zero, List.set_cons_succ])
  refine ws_e ?_
  go_upto_region 4 with (first
    | (with_reducible refine at_oper (.load 73 (.tmp 1)) rfl ?_
       refine wpList_load_blk rfl 73 (.tmp 1) rfl w.heap.size rfl 73 cs _ HB4.out.2.1 Tryz.underlying73 rfl (by rw [hsz]; exact size73) ?_)
    | (go_at_call 114
       refine (merge_c K TT TT cs t _ t.nxt.length block Ar cr reps w4 (HR.out.below HB4.out.1) HCE.out.2.2 HBk.out HRp.out).mono ?_
       rintro e w5 ⟨Ac, cc, Am, cm, rfl, own5, owns5, b5⟩
       have hmi := mergeT_spec HW.out block reps
       obtain ⟨M, hM⟩ : ∃ M, mergeT t block reps = M := ⟨_, rfl⟩
       rw [hM] at own5 owns5 hmi
       rw [hM]
       have HCI := Lib.hid (show CI w w5 cs t (some ⟨gb, 0, none⟩) t.nxt.length block Ar cr reps Ac cc M.cells Am cm M.classes from
         ⟨HB4.out.1.trans (b5.mono HB4.out.1.size), HB4.out.2.1.old b5, HB4.out.2.2.old b5, HBk.out.below b5, HRp.out.below b5,
          (own5.rn (by have := hmi.le; omega) (lt_mono hmi.ce (by omega))).weak (K' := TT) fun _ _ _ => trivial,
          (owns5.rc (by have := hmi.cl; have := hmi.le; omega)).weak fun k _ hk => Nat.lt_of_lt_of_le HB4.out.2.2.lt hk⟩)
       have HMI := Lib.hid (And.intro hM hmi)
       clear own5 owns5 b5 hmi hM))
  clear HB2 HB3 HO3 HBk HRp HB4 hgb hrl
  obtain ⟨n, hn⟩ : ∃ n, t.nxt.length = n := ⟨_, rfl⟩
  obtain ⟨L, hL⟩ : ∃ L, reps.length = L := ⟨_, rfl⟩
  obtain ⟨C, hC⟩ : ∃ C, M.cells.length = C := ⟨_, rfl⟩
  have hLn : L ≤ n := by rw [← hL, ← hn]; exact HCE.out.2.2.rl
  have hC6 : C ≤ 256 := by rw [← hC]; exact HMI.out.2.le
  have HN := Lib.hid (And.intro hn (And.intro hL hC))
  have HBk := Lib.hid (hn ▸ HCI.out.bk)
  have HRp := Lib.hid (hL ▸ HCI.out.rp)
  have HCl := Lib.hid (hC ▸ HCI.out.cl)
  rw [hn] at hcap htop HF ⊢
  rw [hL, hC]
  clear hn hL hC
  have hb0 : block.getD 0 0 < L := by rw [← HN.out.2.1]; exact HCE.out.2.2.b0
  obtain ⟨b0, hb00⟩ : ∃ b0, block.getD 0 0 = b0 := ⟨_, rfl⟩
  have hn1 : 0 < n := by rw [← HN.out.1]; exact HW.out.pos
  obtain ⟨adb, hadb, _, cb0⟩ := HBk.out.at_ hn1
  obtain rfl : adb = ⟨gb, 0, none⟩ := by cases hadb; rfl
  rw [hb00] at hb0 cb0
  have HB0 := Lib.hid hb00
  clear hadb hb00
  obtain ⟨D, hD⟩ : ∃ D : Array Value, #[Value.slice Am M.classes.length cm, .slice none 0 0, .slice none 0 0] = D := ⟨_, rfl⟩
  rw [hD]
  have HD := Lib.hid hD
  clear hD
  have s6 : (w5.alloc (.cells D 28)).heap.size = w5.heap.size + 1 := by simp
  have HD6 := Lib.hid (And.intro (Blk.new w5 28 D) ((Below.refl w5.heap.size w5).alloc (Nat.le_refl _) (.cells D 28)))
  generalize w5.alloc (.cells D 28) = w6 at *
  go_upto_region 5 with (first
    | (with_reducible refine at_oper (.makeSlice 64 (.tmp 34) (.tmp 34)) rfl ?_
       refine wpList_makeFullG (w5.heap.size + 1) s6 rfl (.tmp 34) (.tmp 34) 64 rfl (.int .i64 0) Tryz.underlying64 info3 rfl L rfl rfl (by omega) (by omega) ?_
       intro w7 k7 b7 s7
       rw [zia_rep] at k7))
  have cb7 : w7.cell? ⟨gb, 0, none⟩ = some (vi b0) := cell_below (HD6.out.2.trans (b7.mono (by omega))) cb0
  have HCS := Lib.hid (show CS w5 (w7.alloc (.cells #[vi b0] 3)) (.slice Am M.classes.length cm) (ofl 0 L) [b0] [] [] [] 0 (some ⟨w5.heap.size + 1 + 1, 0, none⟩) 1 none 0 none 0 from by
    refine ⟨(HD6.out.2.trans (b7.mono (by omega))).alloc (by omega) _, ((HD.out ▸ HD6.out.1).old b7).alloc _, by rw [ofl_zero]; exact k7.alloc _, ?_, Own.nil_ _ _ _, Own.nil_ _ _ _, ⟨rfl, fun j u hu => by simp at hu⟩, Nat.zero_le _⟩
    have := Own.lit (w := w7) (base := w5.heap.size + 1 + 1) 3 #[vi b0] 1 (by omega) (by omega) rfl
    rw [s7] at this
    exact this)
  clear k7 b7 cb0
  go_wp2_with fail
  go_loopw [42] (fun s42 wr => ∃ i : Nat, i ≤ L ∧ s42 = vi i ∧ CS w5 wr (.slice Am M.classes.length cm) (ofl i L) [b0] [] [] [] 0 (some ⟨w5.heap.size + 1 + 1, 0, none⟩) 1 none 0 none 0) (fun s42 _ => L - (intOf s42).toNat)
  case atStart => exact ⟨0, Nat.zero_le _, rfl, HCS.out⟩
  case round =>
    clear HCS cb7
    obtain ⟨i, hi, rfl, hcs⟩ := hrel
    have HCS := Lib.hid hcs
    clear hcs
    by_cases hiL : i < L
    · have d1 : decide ((i : Int) < L) = true := by simp; omega
      have c9 := (HCS.out.pl.cell i).trans (zia_get (by rw [ofl_len _ _ hi]; exact hiL))
      have f9 := HCS.out.pl.frozen i
      have HC9 := Lib.hid (HCS.out.setp (HCS.out.pl.set_ i (.int .i64 (-1))) (Only.setCell _ _ _ _))
      go_wp2_with fail
      go_roundw
      case rel => exact ⟨i + 1, by omega, by go_num, by have := HC9.out; rwa [ofl_set _ _ hiL] at this⟩
      case measure => simp [intOf]; omega
    · have d1 : decide ((i : Int) < L) = false := by simp; omega
      have hiL' : i = L := by omega
      have HC1 := Lib.hid (show CS w5 wr (.slice Am M.classes.length cm) (List.replicate L (-1)) [b0] [] [] [] 0 (some ⟨w5.heap.size + 1 + 1, 0, none⟩) 1 none 0 none 0 by
        have := HCS.out
        rwa [hiL', ofl_full] at this)
      clear hiL' HCS
      have cb := cell_below HC1.out.below (show w5.cell? ⟨gb, 0, none⟩ = some (vi b0) from by obtain ⟨ad, e, _, h⟩ := HBk.out.at_ hn1; cases e; rw [HB0.out] at h; exact h)
      have c9 := (HC1.out.pl.cell b0).trans (zia_get (by rw [List.length_replicate]; exact hb0))
      have f9 := HC1.out.pl.frozen b0
      have HC2 := Lib.hid (HC1.out.setp (HC1.out.pl.set_ b0 (.int .i64 0)) (Only.setCell _ _ _ _))
      have HCN := Lib.hid (CN.start (t := t) (k := C) hb0)
      go_wp2_with fail
      have HR0 := Lib.hid (show cnLoop t block reps M.cells (L + 1) 0 ((List.replicate L (-1)).set b0 0) [b0] [] [] = ((canonB t block reps).nxt, (canonB t block reps).acc) by
        unfold canonB
        simp only [HMI.out.1, HN.out.2.1, HB0.out])
      go_loopw [9, 11] (fun s9 s11 wr => ∃ (i f : Nat) (place : List Int) (order : List Nat) (ns : List (List Nat)) (acs : List Bool) (us : List Value) (B : Nat) (Ao : Option Addr) (co : Nat) (An : Option Addr) (cn : Nat) (Aa : Option Addr) (ca : Nat), s11 = vi i ∧ s9 = .slice Ao order.length co ∧ CS w5 wr (.slice Am M.classes.length cm) place order ns acs us B Ao co An cn Aa ca ∧ CN t L C f i place order ns acs ∧ cnLoop t block reps M.cells f i place order ns acs = ((canonB t block reps).nxt, (canonB t block reps).acc)) (fun _ s11 _ => L + 1 - (intOf s11).toNat)
      case atStart => exact ⟨0, L + 1, _, _, _, _, _, _, _, _, _, _, _, _, rfl, by simp, HC2.out, HCN.out, HR0.out⟩
      case round =>
        clear HC1 HC2 HCN HR0 cb c9 f9
        obtain ⟨i, f, place, order, ns, acs, us, B, Ao, co, An, cn, Aa, ca, rfl, rfl, hcs, hcn, hq⟩ := hrel
        have HCS := Lib.hid hcs
        have HCN := Lib.hid hcn
        have HQ := Lib.hid hq
        have hol := hcn.pi.len
        have hfu := hcn.fuel
        have hile := hcn.le
        have hnl : ns.length ≤ 4096 := by rw [hcn.nl]; omega
        have hal : acs.length ≤ 4096 := by rw [hcn.al]; omega
        have hoc := hcs.ord.cap.1
        have hnc := hcs.nx.cap.1
        have hacc := hcs.ac.cap.1
        clear hcs hcn hq
        by_cases hio : i < order.length
        · have d2 : decide ((i : Int) < (order.length : Int)) = true := by simp; omega
          obtain ⟨ado, rfl, _, co0⟩ : ∃ ad, Ao = some ad ∧ True ∧ wr.cell? (ad.add i) = some (vi (order.getD i 0)) := by
            obtain ⟨ad, e, _, h⟩ := (HCS.out.ord.sl (K := TT) fun _ _ => trivial).at_ (k := i) (by rw [vis_len]; exact hio)
            exact ⟨ad, e, trivial, h.trans (by simp [vis, hio])⟩
          obtain ⟨o, ho⟩ : ∃ o, order.getD i 0 = o := ⟨_, rfl⟩
          have hoL : o < L := by rw [← ho]; exact HCN.out.pi.lt _ (getD_mem' hio)
          rw [ho] at co0
          obtain ⟨adp, rfl, _, cp⟩ := (HRp.out.below HCS.out.below).at_ hoL
          obtain ⟨s, hs⟩ : ∃ s, reps.getD o 0 = s := ⟨_, rfl⟩
          have hsn : s < n := by rw [← hs, ← HN.out.1]; exact HCE.out.2.2.rs _ (getD_mem' (by rw [HN.out.2.1]; exact hoL))
          rw [hs] at cp
          have HOS := Lib.hid (And.intro ho (And.intro hs (show f = (f - 1) + 1 by omega)))
          have htg := HCE.out.2.2.tg o (by rw [HN.out.2.1]; exact hoL)
          rw [hs, HN.out.2.1] at htg
          have HTG := Lib.hid htg
          obtain ⟨adr, Arr, crr, rfl, _, cr0, hrow⟩ := HRR.out.1.at_ (k := s) (by rw [HN.out.1]; exact hsn)
          have hrow2 := HW.out.row (t.nxt.getD s []) (getD_mem' (by rw [HN.out.1]; exact hsn))
          rw [hrow2.1] at cr0 hrow
          have HCr := Lib.hid (cell_below HCI.out.below cr0)
          have HRow := Lib.hid (hrow.below HCI.out.below)
          have HRow2 := Lib.hid hrow2
          have hcr := hrow.cap
          obtain ⟨N, hN⟩ : ∃ N, t.cells = N := ⟨_, rfl⟩
          rw [hN] at HCr HRow hcr hce
          have HNN := Lib.hid hN
          clear ho hs htg hrow hrow2 cr0 hN
          have HFr := Lib.hid (show KX (w5.heap.size + 1 + 1) (some ado) An Aa wr.heap.size ∧ B ≤ wr.heap.size from
            ⟨⟨by have := HCS.out.pl.lt; omega, fun e => by have := (HCS.out.ord.lt _ e).2; omega, fun e => by have := (HCS.out.nx.lt _ e).2; omega, fun e => by have := (HCS.out.ac.lt _ e).2; omega⟩, HCS.out.bd⟩)
          go_upto_region 17 with (first
            | (with_reducible refine at_oper (.makeSlice 64 (.tmp 68) (.tmp 68)) rfl ?_
               refine wpList_makeFullG wr.heap.size rfl rfl (.tmp 68) (.tmp 68) 64 rfl (.int .i64 0) Tryz.underlying64 info3 rfl C rfl rfl (by omega) (by omega) ?_
               intro w8 k8 b8 s8
               rw [via_rep] at k8
               have HK8 := Lib.hid (And.intro k8 (HCS.out.step b8))
               clear k8 b8 s8))
          generalize wr.heap.size = gr at *
          clear co0 cp
          have hcc3 := HCl.out.cap
          go_wp2_with fail
          go_loopw [9, 72] (fun s9 s72 wx => ∃ (k : Nat) (place' : List Int) (order' row : List Nat) (Ao' : Option Addr) (co' : Nat), k ≤ C ∧ s72 = vi k ∧ s9 = .slice Ao' order'.length co' ∧ CS w5 wx (.slice Am M.classes.length cm) place' order' ns acs us B Ao' co' An cn Aa ca ∧ KX (w5.heap.size + 1 + 1) Ao' An Aa gr ∧ Blk wx gr 3 (via (row ++ List.replicate (C - row.length) 0)) ∧ row.length = k ∧ PI L place' order' ∧ cnRow t.nxt block s (M.cells.drop k) place' order' row = cnRow t.nxt block s M.cells place order [] ∧ Lt 5000 row) (fun _ s72 _ => C - (intOf s72).toNat)
          case atStart => exact ⟨0, place, order, [], some ado, co, Nat.zero_le _, rfl, rfl, HK8.out.2, HFr.out.1, HK8.out.1, rfl, HCN.out.pi, rfl, fun x hx => by simp at hx⟩
          case round =>
            clear HK8
            obtain ⟨k, place', order', row, Ao', co', hk, rfl, rfl, hcs', hkx, hrb, hrl, hpi, hcr', hr5⟩ := hrel
            have HCS' := Lib.hid hcs'
            have HKX := Lib.hid hkx
            have HRB := Lib.hid hrb
            have HPI := Lib.hid (And.intro hpi (And.intro hcr' (And.intro hrl hr5)))
            have hol' := hpi.len
            have hoc' := hcs'.ord.cap.1
            have hpl := hpi.pl
            clear hcs' hkx hrb hpi hcr' hrl hr5
            by_cases hkC : k < C
            · have d3 : decide ((k : Int) < C) = true := by simp; omega
              obtain ⟨adc, rfl, _, cc0⟩ := (HCl.out.below HCS'.out.below).at_ hkC
              have hkl : k < M.cells.length := by rw [HN.out.2.2]; exact hkC
              obtain ⟨c, hc⟩ : ∃ c, M.cells.getD k 0 = c := ⟨_, rfl⟩
              have hcN : c < N := by rw [← hc, ← HNN.out]; exact HMI.out.2.ce _ (getD_mem' hkl)
              have hdr := getD_drop hkl
              rw [hc] at cc0 hdr
              have ct := ((HCI.out.tab.old HCS'.out.below).cell 257).trans HF.out.1
              have cr1 := cell_below HCS'.out.below HCr.out
              obtain ⟨adx, rfl, _, cx⟩ := (HRow.out.below HCS'.out.below).at_ hcN
              obtain ⟨x, hx⟩ : ∃ x, (t.nxt.getD s []).getD c 0 = x := ⟨_, rfl⟩
              have hxn : x < n := by rw [← hx, ← HN.out.1]; exact HRow2.out.2 _ (getD_mem' (by rw [HRow2.out.1, HNN.out]; exact hcN))
              rw [hx] at cx
              obtain ⟨ady, hady, _, cy⟩ := (HBk.out.below HCS'.out.below).at_ hxn
              cases hady
              obtain ⟨y, hy⟩ : ∃ y, block.getD x 0 = y := ⟨_, rfl⟩
              have hyL : y < L := by rw [← hy, ← hx]; exact HTG.out c (by rw [HNN.out]; exact hcN)
              rw [hy, add0] at cy
              have cpl := (HCS'.out.pl.cell y).trans (zia_get (by rw [hpl]; exact hyL))
              have fpl := HCS'.out.pl.frozen y
              obtain ⟨p, hp⟩ : ∃ p, place'.getD y 0 = p := ⟨_, rfl⟩
              rw [hp] at cpl
              have hD : cnRow t.nxt block s (c :: M.cells.drop (k + 1)) place' order' row = if p < 0 then cnRow t.nxt block s (M.cells.drop (k + 1)) (place'.set y (order'.length : Nat)) (order' ++ [y]) (row ++ [order'.length]) else cnRow t.nxt block s (M.cells.drop (k + 1)) place' order' (row ++ [p.toNat]) := by
                rw [cnRow]
                simp only [hx, hy, hp]
              have HD2 := Lib.hid (And.intro hD (And.intro hdr (And.intro hp (And.intro hyL hpl))))
              clear hD hdr hkl hx hy hc hp hpl
              have crw := (HRB.out.cell k).trans (via_get (by rw [List.length_append, List.length_replicate, HPI.out.2.2.1]; omega))
              have frw := HRB.out.frozen k
              by_cases hp0 : p < 0
              · have d4 : decide (p < 0) = true := by simp; omega
                have HS1 := Lib.hid (HCS'.out.setp (HCS'.out.pl.set_ y (.int .i64 (order'.length : Nat))) (Only.setCell _ _ _ _))
                have hgr1 := HKX.out.1
                have HRB1 := Lib.hid (HRB.out.only (Only.setCell wr (w5.heap.size + 1) y (.int .i64 (order'.length : Nat))) (by omega))
                clear crw frw
                go_wp2_with (first
                  | (at_builtin
                     refine wpList_push rfl (.tmp 98) (.tmp 100) 64 rfl app64 (w5.heap.size + 1 + 1) Ao' order'.length co' (vis order') rfl (HS1.out.ord.alloc _) _ (vi y) rfl ((blk_at (by simp) 3 _).1.cell 0) rfl (by omega) (by omega) (by have := HS1.out.pl.lt; rw [World.size_alloc]; omega) ?_
                     intro A9 c9 w9 hown hgr hA
                     have HS2 := Lib.hid (HS1.out.pusho hown hgr hA)
                     have HRB2 := Lib.hid ((HRB1.out.alloc _).grown hgr HKX.out.2.1)
                     have HKX2 := Lib.hid (show KX (w5.heap.size + 1 + 1) A9 An Aa gr from ⟨HKX.out.1, obl_moved hA HKX.out.2.1 (by have := (HRB1.out.alloc (.cells #[vi y] 3)).lt; exact this), HKX.out.2.2⟩)
                     have cpl : w9.cell? ⟨w5.heap.size + 1, y, none⟩ = some (vi order'.length) := (HS2.out.pl.cell y).trans ((zia_get (by rw [List.length_set, HD2.out.2.2.2.2]; exact hyL)).trans (by rw [getD_set, if_pos ⟨rfl, by rw [HD2.out.2.2.2.2]; exact hyL⟩]))
                     have crw := (HRB2.out.cell k).trans (via_get (by rw [List.length_append, List.length_replicate, HPI.out.2.2.1]; omega))
                     have frw := HRB2.out.frozen k
                     have HS3 := Lib.hid (HS2.out.only (Only.setCell w9 gr k (vi order'.length)) HKX2.out (by have := HFr.out.2; omega))
                     have HRB3 := Lib.hid (HRB2.out.set_ k (vi order'.length))
                     clear hown hgr hA))
                go_roundw
                case rel =>
                  have h3 := HRB3.out
                  rw [via_set, rowl_set _ _ _ _ HPI.out.2.2.1 hkC] at h3
                  have h4 := HPI.out.2.1
                  rw [HD2.out.2.1, HD2.out.1, if_pos hp0] at h4
                  exact ⟨k + 1, _, order' ++ [y], row ++ [order'.length], A9, c9, by omega, by go_num, by simp, HS3.out, HKX2.out, h3, by simp [HPI.out.2.2.1], HPI.out.1.snoc hyL (by rw [HD2.out.2.2.1]; exact hp0), h4, fun z hz => by
                    rcases List.mem_append.1 hz with h1 | h1
                    · exact HPI.out.2.2.2 z h1
                    · simp at h1; omega⟩
                case measure => simp [intOf]; omega
              · have d4 : decide (p < 0) = false := by simp; omega
                have hpn : p = (p.toNat : Int) := by omega
                obtain ⟨q, hq⟩ : ∃ q, p.toNat = q := ⟨_, rfl⟩
                rw [hq] at hpn
                subst hpn
                have HS3 := Lib.hid (HCS'.out.only (Only.setCell wr gr k (vi q)) HKX.out (by have := HFr.out.2; omega))
                have HRB3 := Lib.hid (HRB.out.set_ k (vi q))
                clear hq
                go_wp2_with fail
                go_roundw
                case rel =>
                  have h3 := HRB3.out
                  rw [via_set, rowl_set _ _ _ _ HPI.out.2.2.1 hkC] at h3
                  have h4 := HPI.out.2.1
                  rw [HD2.out.2.1, HD2.out.1, if_neg hp0] at h4
                  exact ⟨k + 1, place', order', row ++ [q], Ao', co', by omega, by go_num, rfl, HS3.out, HKX.out, h3, by simp [HPI.out.2.2.1], HPI.out.1, by simpa using h4, fun z hz => by
                    rcases List.mem_append.1 hz with h1 | h1
                    · exact HPI.out.2.2.2 z h1
                    · rcases HPI.out.1.is y hyL with h5 | ⟨k', h5, h6⟩
                      · rw [HD2.out.2.2.1] at h5; omega
                      · rw [HD2.out.2.2.1] at h5; have := (List.getElem?_eq_some_iff.1 h6).1; simp at h1; omega⟩
                case measure => simp [intOf]; omega
            · have d3 : decide ((k : Int) < C) = false := by simp; omega
              have hkC' : k = C := by omega
              have HE := Lib.hid (show (place', order', row) = cnRow t.nxt block s M.cells place order [] by
                have := HPI.out.2.1
                rwa [List.drop_of_length_le (by rw [HN.out.2.2]; omega), cnRow] at this)
              have hrb := HRB.out
              rw [HPI.out.2.2.1, hkC', Nat.sub_self, List.replicate_zero, List.append_nil] at hrb
              have HRN := Lib.hid (show RN wr (fun k => KX (w5.heap.size + 1 + 1) Ao' An Aa k) (some ⟨gr, 0, none⟩) C C row from
                (hrb.rn (by rw [HPI.out.2.2.1]; exact hkC') (by omega) (lt_mono HPI.out.2.2.2 (by decide))).weak fun k _ hk => by rw [hk]; exact HKX.out)
              have cd1 : wr.cell? ⟨w5.heap.size, 1, none⟩ = some (.slice An ns.length cn) := HCS'.out.d.cell 1
              clear hrb hkC'
              have hnc := HCS'.out.nx.cap.1
              have hsz9 := Lib.hid HCS'.out.pl.lt
              go_upto_region 27 with (first
                | (at_builtin
                   refine wpList_push rfl (.tmp 111) (.tmp 113) 25 rfl app25 (w5.heap.size + 1 + 1) An ns.length cn us rfl (HCS'.out.nx.alloc _) _ (.slice (some ⟨gr, 0, none⟩) C C) rfl ((Blk.new _ 64 _).cell 0) rfl (by omega) (by omega) (by have := hsz9.out; rw [World.size_alloc]; omega) ?_
                   intro A9 c9 w9 hown hgr hA
                   have HP := Lib.hid (And.intro hown (And.intro hgr hA))
                   have HD9 := Lib.hid ((HCS'.out.d.alloc _).grown hgr fun e => by have := (HCS'.out.nx.lt _ e).1; omega)
                   clear hown hgr hA)
                | (with_reducible refine at_oper (.store 25 (.tmp 115) (.tmp 114)) rfl ?_
                   refine wpList_store_at rfl 25 (.tmp 115) (.tmp 114) rfl rfl w5.heap.size 1 (.slice A9 (ns.length + 1) c9) _ 28 rfl rfl HD9.out (by simp) size25 rfl ?_
                   intro w10 k10 o10
                   have HC10 := Lib.hid (HCS'.out.pushn HRN.out HP.out.1 HP.out.2.1 HP.out.2.2 k10 o10)
                   clear k10 o10))
              have cd2 : w10.drew.cell? ⟨w5.heap.size, 2, none⟩ = some (.slice Aa acs.length ca) := HC10.out.d.cell 2
              have ct8 : w10.drew.cell? ⟨w.heap.size, 258, none⟩ = some (.slice A3 n c3) := ((HCI.out.tab.old HC10.out.below).cell 258).trans HF.out.2
              obtain ⟨ad3, hA3, _, ca3⟩ := (HRR.out.2.below (HCI.out.below.trans (HC10.out.below.mono HCI.out.below.size))).at_ (k := s) (by rw [HW.out.acc, HN.out.1]; exact hsn)
              obtain ⟨x, hx⟩ : ∃ x, t.acc.getD s false = x := ⟨_, rfl⟩
              rw [hx] at ca3
              rw [hA3] at ct8
              have HX := Lib.hid (And.intro hx hA3)
              have hn3 := hcap3
              rw [HW.out.acc, HN.out.1] at hn3
              clear hx hA3
              have ct8w : w10.cell? ⟨w.heap.size, 258, none⟩ = some (.slice (some ad3) n c3) := ct8
              have ca3w : w10.cell? (ad3.add s) = some (.bool x) := ca3
              refine wp_region_ws (by kernel_rfl) [true, true, true, true, true, true, true, false, false, false, false] 8 (fun W => W.cell? ⟨w5.heap.size, 2, none⟩ = some (.slice Aa acs.length ca) ∧ W.cell? ⟨w.heap.size, 258, none⟩ = some (.slice (some ad3) n c3) ∧ W.cell? (ad3.add s) = some (.bool x)) (by decide +kernel) (fun _ _ d _ _ h => by cases d <;> exact h) ⟨cd2, ct8, ca3⟩ ?_
              clear cd2 ct8 ca3 cd1
              iterate 7 (refine ws_r ?_ (fun W hS => ?_) ?_; rotate_left; (focus (obtain ⟨q1, q2, q3⟩ := hS; go_simp; first | done | rfl)); simp only [Act.put, List.setIfInBounds_toArray, List.set_cons_zero, List.set_cons_succ])
              refine ws_c ?_
              go_wp2_with fail
              dsimp only [segQ]
              have hb11 : Below w10.heap.size w10 (w10.alloc (.cells #[.bool x] 4)).drew := ((Below.refl _ _).alloc (Nat.le_refl _) _).drew
              refine ⟨fun _ => ⟨cell_below hb11 (HC10.out.d.cell 2), cell_below hb11 ct8w, cell_below hb11 ca3w⟩, ws_c ?_⟩
              have hac := HC10.out.ac.cap.1
              go_wp2_with (first
                | (at_builtin
                   refine wpList_push rfl (.tmp 117) (.tmp 123) 26 rfl app26 (w5.heap.size + 1 + 1) Aa acs.length ca (acs.map Value.bool) rfl (HC10.out.ac.alloc _).drew _ (.bool x) rfl (Blk.cell (w := (w10.alloc (.cells #[.bool x] 4)).drew) (Blk.new w10 4 #[.bool x]) 0) rfl (by omega) (by omega) (by have := HC10.out.pl.lt; show _ ≤ (w10.alloc _).heap.size; rw [World.size_alloc]; omega) ?_
                   intro A11 c11 w11 hown hgr hA
                   have HP := Lib.hid (And.intro hown (And.intro (show (w10.alloc (.cells #[.bool x] 4)).grownBy w11 (obl Aa) from ⟨hgr.os, hgr.tape, hgr.output, hgr.size, hgr.block⟩) hA))
                   have HD11 := Lib.hid ((Blk.alloc HC10.out.d _).grown (w := (w10.alloc (.cells #[.bool x] 4)).drew) hgr fun e => by have := (HC10.out.ac.lt _ e).1; omega)
                   clear hown hgr hA))
              refine ws_c ?_
              go_wp2_with fail
              first
                | refine ws_c ?_
                | (dsimp only [segQ]
                   refine ⟨fun h => absurd h (by decide), ws_c ?_⟩)
              go_wp2_with (first
                | (with_reducible refine at_oper (.store 26 (.tmp 125) (.tmp 124)) rfl ?_
                   refine wpList_store_at rfl 26 (.tmp 125) (.tmp 124) rfl rfl w5.heap.size 2 (.slice A11 (acs.length + 1) c11) _ 28 rfl rfl HD11.out (by simp) size26 rfl ?_
                   intro w12 k12 o12
                   have HC12 := Lib.hid (HC10.out.pusha HP.out.1 HP.out.2.1 HP.out.2.2 k12 o12)
                   clear k12 o12))
              first
                | refine ws_e ?_
                | (dsimp only [segQ]
                   refine ⟨fun h => absurd h (by decide), ws_e ?_⟩)
              go_wp2_with fail
              go_roundw
              case rel =>
                have hio' : order[i]? = some o := by rw [← HOS.out.1]; simp [hio]
                have h1 := HQ.out
                rw [HOS.out.2.2, cnLoop, hio'] at h1
                simp only [HOS.out.2.1, ← HE.out, HX.out.1] at h1
                have h2 := HCN.out
                rw [HOS.out.2.2, ← HN.out.2.2] at h2
                have h3 := h2.step (block := block) (s := s) hio (fun c hc => HTG.out c (HMI.out.2.ce c hc)) x
                simp only [← HE.out] at h3
                rw [HN.out.2.2] at h3
                exact ⟨i + 1, f - 1, place', order', ns ++ [row], acs ++ [x], _, _, Ao', co', A9, c9, A11, c11, by go_num, rfl, HC12.out, h3, h1⟩
              case measure => simp [intOf]; omega
        · have d2 : decide ((i : Int) < (order.length : Int)) = false := by simp; omega
          have HE := Lib.hid (show (ns, acs) = ((canonB t block reps).nxt, (canonB t block reps).acc) by
            have := HQ.out
            cases f with
            | zero => exact this
            | succ f =>
              rw [cnLoop, List.getElem?_eq_none (by omega)] at this
              exact this)
          have HDo := Lib.hid HCS.out.d
          have HRe2 := Lib.hid (HCI.out.res.old HCS.out.below)
          clear hC6
          go_wp2_with (first
            | (with_reducible refine at_oper (.load 28 (.tmp 7)) rfl ?_
               refine wpList_load_blk rfl 28 (.tmp 7) rfl w5.heap.size rfl 28 #[.slice Am M.classes.length cm, .slice An ns.length cn, .slice Aa acs.length ca] _ HDo.out Tryz.underlying28 rfl size28 ?_)
            | (with_reducible refine at_oper (.store 28 (.tmp 2) (.tmp 126)) rfl ?_
               refine wpList_store_blk rfl 28 (.tmp 2) (.tmp 126) rfl rfl (w.heap.size + 1) #[.slice Am M.classes.length cm, .slice An ns.length cn, .slice Aa acs.length ca] #[.slice none 0 0, .slice none 0 0, .slice none 0 0] 28 rfl rfl HRe2.out size28 rfl (one3 ..) ?_
               intro w9 k9 o9
               have K9 := Lib.hid k9
               have O9 := Lib.hid o9
               clear k9 o9))
          refine bodyPost_ret (results_cell rfl _ _ (w.heap.size + 1) rfl 28 _ K9.out Tryz.underlying28 rfl size28) rfl ?_
          have hb1 := HCI.out.below.trans (HCS.out.below.mono HCI.out.below.size)
          have hb9 := below_only hb1 O9.out (by omega)
          refine ⟨_, rfl, ?_, hb9⟩
          have hcan : canonical t = ⟨M.classes, ns, acs⟩ := by rw [HCan.out, HCE.out.1, HCE.out.2.1]; exact canonB_eq HMI.out.1 HE.out
          rw [hcan]
          have hg : w.heap.size + 1 < w5.heap.size := HCI.out.res.lt
          have hcr := HCI.out.res.lt
          have r1 : RC w9 (fun k => w.heap.size + 1 < k) Am M.classes.length cm M.classes := (HCI.out.cm.below HCS.out.below).old (w' := w9) fun k hk _ => O9.out.block k (by omega)
          have r2 := (HCS.out.nx.rr ((HCS.out.rows.weak (K' := fun k => w5.heap.size + 1 + 1 ≤ k) fun k _ hk => hk.1.1)) (by omega)).old (w' := w9) fun k hk _ => O9.out.block k (by omega)
          have r3 := (HCS.out.ac.rl (by omega)).old (w' := w9) fun k hk _ => O9.out.block k (by omega)
          exact ⟨Am, An, Aa, cm, cn, ca, rfl, r1.weak fun k _ hk => by omega, r2.weak fun k _ hk => by omega, r3.weak fun k _ hk => by omega⟩
end Go.Proofs.YtjgkdfghjeodeaaGreatDoor
