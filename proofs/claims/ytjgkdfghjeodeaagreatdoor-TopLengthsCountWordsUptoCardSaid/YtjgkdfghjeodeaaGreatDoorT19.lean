/- automaton.table.limited. -/
import Derived.Test.YtjgkdfghjeodeaaGreatDoorT17
import Derived.Test.YtjgkdfghjeodeaaGreatDoorT18
namespace Go.Proofs.YtjgkdfghjeodeaaGreatDoor
open Go.RowKit

theorem RC.nil_ (w : World) (K : Nat → Prop) : RC w K none 0 0 [] := ⟨rfl, Nat.le_refl _, by omega, by omega, Sl.nil_ w K _⟩
theorem RR.nil_ (w : World) (K : Nat → Prop) : RR w K none 0 0 [] := ⟨rfl, Nat.le_refl _, by omega, by omega, [], Sl.nil_ w K _, rfl, fun j u hu => by simp at hu⟩
theorem RL_.nil_ (w : World) (K : Nat → Prop) : RL_ w K none 0 0 [] := ⟨rfl, Nat.le_refl _, by omega, by omega, Sl.nil_ w K _⟩
theorem RD.nil_ (w : World) (K : Nat → Prop) : RD w K (.agg #[.slice none 0 0, .slice none 0 0, .slice none 0 0]) ⟨[], [], []⟩ := ⟨none, none, none, 0, 0, 0, rfl, RC.nil_ w K, RR.nil_ w K, RL_.nil_ w K⟩
/-- an automaton's three cells -/
theorem RD.open_ {w : World} {K : Nat → Prop} {v : Value} {d : Dfa} (h : RD w K v d) : ∃ A1 A2 A3 c1 c2 c3, v = .agg #[.slice A1 d.cls.length c1, .slice A2 d.nxt.length c2, .slice A3 d.acc.length c3] ∧ RC w K A1 d.cls.length c1 d.cls ∧ RR w K A2 d.nxt.length c2 d.nxt ∧ RL_ w K A3 d.acc.length c3 d.acc := h

set_option maxRecDepth 100000 in
theorem limited_c (K : Nat → Prop) (cs : Array Value) (t : Tbl) (w : World) (hR : RT w K cs t) (hw : WT t) : Calls Tryz.prog 86 #[.agg cs] w
    fun e w' => ∃ v, e = .returned (.tuple #[v, vi (limited t).2]) ∧ RD w' (fun k => w.heap.size ≤ k) v (limited t).1 ∧ Below w.heap.size w w' := by
  have hsz := hR.size
  have HR := Lib.hid hR
  have HW := Lib.hid hw
  have HT := Lib.hid hw.top
  have HC := Lib.hid (canonical_spec hw)
  clear hR hw
  go_enter Tryz.func86, Tryz.ntmps86
  go_upto_region 1 with (first
    | (with_reducible refine at_oper (.box 73 (.tmp 0)) rfl ?_
       refine wpList_box_rowG w.heap.size rfl rfl 73 (.tmp 0) rfl cs rfl ?_
       intro w1 k1 b1 s1)
    | (with_reducible refine at_oper (.alloc 28) rfl ?_
       refine wpList_alloc_rowG (w.heap.size + 1) s1 rfl 28 rfl _ zero28 ?_
       intro w2 k2 b2 s2))
  have H2 := Lib.hid (show Below w.heap.size w w2 ∧ Blk w2 w.heap.size 73 cs ∧ Blk w2 (w.heap.size + 1) 28 #[.slice none 0 0, .slice none 0 0, .slice none 0 0] from ⟨b1.trans (b2.mono b1.size), k1.old b2, k2⟩)
  clear k1 k2 b1 b2
  go_upto_region 2 with (first
    | (with_reducible refine at_oper (.load 73 (.tmp 1)) rfl ?_
       refine wpList_load_blk rfl 73 (.tmp 1) rfl w.heap.size rfl 73 cs _ H2.out.2.1 Tryz.underlying73 rfl (by rw [hsz]; exact size73) ?_)
    | (go_at_call 75
       refine (canonical_c K cs t w2 (HR.out.below H2.out.1) HW.out).mono ?_
       rintro e w3 ⟨v, rfl, hd, hb⟩
       obtain ⟨A1, A2, A3, c1, c2, c3, rfl, hC, hN, hL⟩ := hd.open_
       have H3 := Lib.hid (show RD w3 (fun k => w2.heap.size ≤ k) _ (canonical t) ∧ Below w.heap.size w w3 ∧ Blk w3 (w.heap.size + 1) 28 #[.slice none 0 0, .slice none 0 0, .slice none 0 0] from ⟨hd, H2.out.1.trans (hb.mono H2.out.1.size), H2.out.2.2.old hb⟩)
       clear hd hC hN hL hb)
    | (with_reducible refine at_oper (.alloc 28) rfl ?_
       refine wpList_alloc_rowG w3.heap.size rfl rfl 28 rfl _ zero28 ?_
       intro w4 k4 b4 s4)
    | (with_reducible refine at_oper (.store 28 (.tmp 4) (.tmp 6)) rfl ?_
       refine wpList_store_blk rfl 28 (.tmp 4) (.tmp 6) rfl rfl w3.heap.size #[.slice A1 (canonical t).cls.length c1, .slice A2 (canonical t).nxt.length c2, .slice A3 (canonical t).acc.length c3] #[.slice none 0 0, .slice none 0 0, .slice none 0 0] 28 rfl rfl k4 size28 rfl (one3 ..) ?_
       intro w5 k5 o5))
  have hlt := H3.out.2.2.lt
  have hb5 : Below w3.heap.size w3 w5 := below_only b4 o5 (Nat.le_refl _)
  have H5 := Lib.hid (show RD w5 (fun k => w2.heap.size ≤ k) _ (canonical t) ∧ Below w.heap.size w w5 ∧ Blk w5 (w.heap.size + 1) 28 #[.slice none 0 0, .slice none 0 0, .slice none 0 0] ∧ Blk w5 w3.heap.size 28 #[.slice A1 (canonical t).cls.length c1, .slice A2 (canonical t).nxt.length c2, .slice A3 (canonical t).acc.length c3] from
    ⟨H3.out.1.below hb5, H3.out.2.1.trans (hb5.mono H3.out.2.1.size), H3.out.2.2.old hb5, k5⟩)
  have f1 : w5.cell? ⟨w3.heap.size, 1, none⟩ = some (.slice A2 (canonical t).nxt.length c2) := k5.cell 1
  have hnl : (canonical t).nxt.length ≤ 4096 := Nat.le_trans HC.out.2 HT.out
  obtain ⟨N, hN⟩ : ∃ N, (canonical t).nxt.length = N := ⟨_, rfl⟩
  rw [hN] at f1 hnl
  have HN := Lib.hid hN
  have hlim : limited t = if 64 < (canonical t).nxt.length then (⟨[], [], []⟩, 2) else (canonical t, 0) := rfl
  rw [hN] at hlim
  have HLim := Lib.hid hlim
  have HK4 := Lib.hid s2
  clear k4 k5 b4 o5 hb5 hN hlim s4 s2
  by_cases hN6 : 64 < N
  · have d1 : decide ((N : Int) > 64) = true := by simp; omega
    have hl := HLim.out
    rw [if_pos hN6] at hl
    have HL := Lib.hid hl
    clear hl
    go_wp2_with (first
      | (with_reducible refine at_oper (.store 28 (.tmp 2) (.tmp 11)) rfl ?_
         refine wpList_store_blk rfl 28 (.tmp 2) (.tmp 11) rfl rfl (w.heap.size + 1) #[.slice none 0 0, .slice none 0 0, .slice none 0 0] #[.slice none 0 0, .slice none 0 0, .slice none 0 0] 28 rfl rfl H5.out.2.2.1 size28 rfl (one3 ..) ?_
         intro w6 k6 o6
         have K6 := Lib.hid k6
         have O6 := Lib.hid o6
         clear k6 o6))
    refine bodyPost_ret (results_ct rfl _ _ _ rfl (w.heap.size + 1) rfl 28 _ K6.out Tryz.underlying28 rfl size28) rfl ?_
    rw [HL.out]
    exact ⟨_, rfl, RD.nil_ _ _, below_only H5.out.2.1 O6.out (by omega)⟩
  · have d1 : decide ((N : Int) > 64) = false := by simp; omega
    have hl := HLim.out
    rw [if_neg hN6] at hl
    have HL := Lib.hid hl
    clear hl
    go_wp2_with (first
      | (with_reducible refine at_oper (.load 28 (.tmp 4)) rfl ?_
         refine wpList_load_blk rfl 28 (.tmp 4) rfl w3.heap.size rfl 28 #[.slice A1 (canonical t).cls.length c1, .slice A2 (canonical t).nxt.length c2, .slice A3 (canonical t).acc.length c3] _ H5.out.2.2.2 Tryz.underlying28 rfl size28 ?_)
      | (with_reducible refine at_oper (.store 28 (.tmp 2) (.tmp 12)) rfl ?_
         refine wpList_store_blk rfl 28 (.tmp 2) (.tmp 12) rfl rfl (w.heap.size + 1) #[.slice A1 (canonical t).cls.length c1, .slice A2 (canonical t).nxt.length c2, .slice A3 (canonical t).acc.length c3] #[.slice none 0 0, .slice none 0 0, .slice none 0 0] 28 rfl rfl H5.out.2.2.1 size28 rfl (one3 ..) ?_
         intro w6 k6 o6
         have K6 := Lib.hid k6
         have O6 := Lib.hid o6
         clear k6 o6))
    refine bodyPost_ret (results_ct rfl _ _ _ rfl (w.heap.size + 1) rfl 28 _ K6.out Tryz.underlying28 rfl size28) rfl ?_
    rw [HL.out]
    have h2 := HK4.out
    exact ⟨_, rfl, (H5.out.1.old fun k hk _ => O6.out.block k (by omega)).weak fun k _ hk => by omega, below_only H5.out.2.1 O6.out (by omega)⟩

theorem clB_ne {c : Nat} (h0 : c ≠ 0) (hc : c < 2 ^ 256) : clB c 0 = false := by rw [clB_eq hc (by decide)]; simpa using h0
theorem clB_zero : clB 0 0 = true := by decide +kernel
theorem one56 (c : Nat) : (ccells c).all (·.oneCell') = true := encC_one c
/-- between two classes -/
structure VS (w wr : World) (D : Array Value) (x : Nat) : Prop where
  below : Below w.heap.size w wr
  box : Blk wr w.heap.size 28 D
  seen : Blk wr (w.heap.size + 1) 56 (ccells x)
theorem VS.step {w wr w' : World} {D : Array Value} {x : Nat} (h : VS w wr D x) (hb : Below wr.heap.size wr w') : VS w w' D x := ⟨h.below.trans (hb.mono h.below.size), h.box.old hb, h.seen.old hb⟩

set_option maxRecDepth 100000 in
set_option maxHeartbeats 2000000 in
theorem valid_c (K : Nat → Prop) (v : Value) (d : Dfa) (w : World) (hd : RD w K v d) (hv : VD d) : Calls Tryz.prog 18 #[v] w (Gives w (.bool true)) := by
  obtain ⟨A1, A2, A3, c1, c2, c3, rfl, hC, hN, hL⟩ := hd.open_
  obtain ⟨m, hm⟩ : ∃ m, d.cls.length = m := ⟨_, rfl⟩
  obtain ⟨n, hn⟩ : ∃ n, d.nxt.length = n := ⟨_, rfl⟩
  have hac := hv.acc
  have h1 := hv.pos
  have h2 := hv.top
  have h3 := hv.cpos
  have h4 := hv.ctop
  rw [hm] at h3 h4 hC
  rw [hn] at h1 h2 hN hac
  rw [hac] at hL
  rw [hm, hn, hac]
  have HC := Lib.hid hC
  have HN := Lib.hid hN
  have HL := Lib.hid hL
  have HV := Lib.hid hv
  have HM := Lib.hid (And.intro hm hn)
  clear hd hC hN hL hv hac hm hn
  go_enter Tryz.func18, Tryz.ntmps18
  go_upto_region 1 with fail
  obtain ⟨D, hD⟩ : ∃ D : Array Value, #[Value.slice A1 m c1, .slice A2 n c2, .slice A3 n c3] = D := ⟨_, rfl⟩
  have k0 := Blk.new w 28 #[Value.slice A1 m c1, .slice A2 n c2, .slice A3 n c3]
  have b0 : Below w.heap.size w (w.alloc (.cells #[Value.slice A1 m c1, .slice A2 n c2, .slice A3 n c3] 28)) := (Below.refl _ _).alloc (Nat.le_refl _) _
  have s0 : (w.alloc (.cells #[Value.slice A1 m c1, .slice A2 n c2, .slice A3 n c3] 28)).heap.size = w.heap.size + 1 := by simp
  generalize w.alloc (.cells #[Value.slice A1 m c1, .slice A2 n c2, .slice A3 n c3] 28) = w0 at *
  obtain ⟨f1, f2, f3⟩ := cells28 k0
  have K0 := Lib.hid (And.intro k0 b0)
  clear k0 b0
  have d1 : decide ((n : Int) < 1) = false := by simp; omega
  have d2 : decide ((n : Int) > 64) = false := by simp; omega
  have d3 : decide ((m : Int) < 1) = false := by simp; omega
  have d4 : decide ((m : Int) > 256) = false := by simp; omega
  go_upto_region 5 with (first
    | (with_reducible refine at_oper (.alloc 56) rfl ?_
       refine wpList_alloc_rowG (w.heap.size + 1) s0 rfl 56 rfl _ zero56 ?_
       intro w1 k1 b1 s1))
  rw [ccells_zero] at k1
  obtain ⟨f1', f2', f3'⟩ := cells28 (K0.out.1.old b1)
  have HVS := Lib.hid (show VS w w1 #[.slice A1 m c1, .slice A2 n c2, .slice A3 n c3] (orL (d.cls.take 0)) from ⟨K0.out.2.trans (b1.mono K0.out.2.size), K0.out.1.old b1, k1⟩)
  clear k1 b1 f1 f2 f3 d1 d2 d3 d4
  go_wp2_with fail
  go_loopw [42] (fun s42 wr => ∃ i : Nat, i ≤ m ∧ s42 = vi i ∧ VS w wr #[.slice A1 m c1, .slice A2 n c2, .slice A3 n c3] (orL (d.cls.take i))) (fun s42 _ => m - (intOf s42).toNat)
  case atStart => exact ⟨0, Nat.zero_le _, rfl, HVS.out⟩
  case round =>
    clear HVS f1' f2' f3'
    obtain ⟨i, hi, rfl, hvs⟩ := hrel
    have HVS := Lib.hid hvs
    clear hvs
    by_cases hlt : i < m
    · have d1 : decide ((i : Int) < m) = true := by simp; omega
      obtain ⟨ad, rfl, _, hcell⟩ := (HC.out.below HVS.out.below).at_ hlt
      have hil : i < d.cls.length := by rw [HM.out.1]; exact hlt
      obtain ⟨c, hc⟩ : ∃ c, d.cls.getD i 0 = c := ⟨_, rfl⟩
      obtain ⟨x, hx⟩ : ∃ x, orL (d.cls.take i) = x := ⟨_, rfl⟩
      have hcn := HV.out.ne c (by rw [← hc]; exact getD_mem' hil)
      have hap := part_apart HV.out.part (fun c h => (HV.out.ne c h).2) hil
      have hsn : orL (d.cls.take (i + 1)) = x ||| c := by
        rw [take_snoc_of (x := c) (by rw [← hc]; simp [hil]), orL_snoc, hx]
      rw [hc] at hcell hap
      rw [hx] at hap
      have HCl := Lib.hid hcell
      have HS := Lib.hid (hx ▸ HVS.out)
      have HX := Lib.hid (And.intro hcn (And.intro hap hsn))
      clear hcell hcn hap hsn hc hx HVS hil
      go_upto_region 8 with (first
        | (with_reducible refine at_oper (.load 56 (.tmp 44)) rfl ?_
           refine wpList_load_class rfl (.tmp 44) rfl _ rfl c HCl.out ?_)
        | (with_reducible refine at_oper (.alloc 56) rfl ?_
           refine wpList_alloc_rowG wr.heap.size rfl rfl 56 rfl _ zero56 ?_
           intro w5 k5 b5 s5)
        | (with_reducible refine at_oper (.store 56 (.tmp 6) (.tmp 45)) rfl ?_
           refine wpList_store_blk rfl 56 (.tmp 6) (.tmp 45) rfl rfl wr.heap.size (ccells c) _ 56 rfl rfl k5 size56 rfl (encC_one c) ?_
           intro w6 k6 o6
           have H6 := Lib.hid (show VS w w6 #[.slice (some ad) m c1, .slice A2 n c2, .slice A3 n c3] x ∧ Blk w6 wr.heap.size 56 (ccells c) from ⟨HS.out.step (below_only b5 o6 (Nat.le_refl _)), k6⟩)
           clear k5 k6 b5 o6 s5))
      generalize wr.heap.size = gc at *
      go_upto_region 10 with (first
        | (refine wpList_unguard rfl rfl ?_)
        | (with_reducible refine at_oper (.load 56 (.tmp 6)) rfl ?_
           first
           | refine wpList_load_blk rfl 56 (.tmp 6) rfl gc rfl 56 (ccells c) _ H6.out.2 Tryz.underlying56 rfl size56 ?_)
        | (with_reducible refine at_oper (.load 56 (.tmp 4)) rfl ?_
           refine wpList_load_blk rfl 56 (.tmp 4) rfl (w.heap.size + 1) rfl 56 (ccells x) _ H6.out.1.seen Tryz.underlying56 rfl size56 ?_)
        | (with_reducible refine at_oper (.binOp .eql 56 (.tmp 46) (.tmp 47) 56) rfl ?_
           refine wpList_eql_class rfl (.tmp 46) (.tmp 47) rfl c 0 rfl (congrArg Value.agg ccells_zero) ?_
           rw [clB_ne HX.out.1.1 HX.out.1.2])
        | (with_reducible refine at_oper (.binOp .neq 56 (.tmp 52) (.tmp 53) 56) rfl ?_
           refine wpList_neq_class rfl (.tmp 52) (.tmp 53) rfl (x &&& c) 0 rfl (congrArg Value.agg ccells_zero) ?_
           rw [HX.out.2.1, clB_zero, Bool.not_true])
        | (go_at_call 46
           refine (inter_class_c x c w6).mono ?_
           rintro e w7 ⟨rfl, hb7⟩
           have H7 := Lib.hid (show VS w w7 #[.slice (some ad) m c1, .slice A2 n c2, .slice A3 n c3] x ∧ Blk w7 gc 56 (ccells c) from ⟨H6.out.1.step hb7, H6.out.2.old hb7⟩)
           clear hb7))
      go_wp2_with (first
        | (with_reducible refine at_oper (.load 56 (.tmp 6)) rfl ?_
           refine wpList_load_blk rfl 56 (.tmp 6) rfl gc rfl 56 (ccells c) _ H7.out.2 Tryz.underlying56 rfl size56 ?_)
        | (with_reducible refine at_oper (.load 56 (.tmp 4)) rfl ?_
           refine wpList_load_blk rfl 56 (.tmp 4) rfl (w.heap.size + 1) rfl 56 (ccells x) _ H7.out.1.seen Tryz.underlying56 rfl size56 ?_)
        | (go_at_call 47
           refine (union_class_c x c w7).mono ?_
           rintro e w8 ⟨rfl, hb8⟩
           have H8 := Lib.hid (H7.out.1.step hb8)
           clear hb8)
        | (with_reducible refine at_oper (.store 56 (.tmp 4) (.tmp 58)) rfl ?_
           refine wpList_store_blk rfl 56 (.tmp 4) (.tmp 58) rfl rfl (w.heap.size + 1) (ccells (x ||| c)) _ 56 rfl rfl H8.out.seen size56 rfl (encC_one _) ?_
           intro w9 k9 o9
           have H9 := Lib.hid (show VS w w9 #[.slice (some ad) m c1, .slice A2 n c2, .slice A3 n c3] (x ||| c) from ⟨below_only H8.out.below o9 (by omega), H8.out.box.only o9 (by omega), k9⟩)
           clear k9 o9))
      go_roundw
      case rel => exact ⟨i + 1, by omega, by go_num, by rw [HX.out.2.2]; exact H9.out⟩
      case measure => simp [intOf]; omega
    · have d1 : decide ((i : Int) < m) = false := by simp; omega
      have him : i = m := by omega
      obtain ⟨x, hx⟩ : ∃ x, orL (d.cls.take i) = x := ⟨_, rfl⟩
      have HX := Lib.hid (show notC x = 0 by
        rw [← hx, List.take_of_length_le (by rw [HM.out.1]; omega)]
        exact part_full HV.out.part fun c h => (HV.out.ne c h).2)
      have HS := Lib.hid (hx ▸ HVS.out)
      clear him hx HVS
      go_upto_region 14 with (first
        | (with_reducible refine at_oper (.load 56 (.tmp 4)) rfl ?_
           refine wpList_load_blk rfl 56 (.tmp 4) rfl (w.heap.size + 1) rfl 56 (ccells x) _ HS.out.seen Tryz.underlying56 rfl size56 ?_)
        | (go_at_call 48
           refine (not_class_c x wr).mono ?_
           rintro e w7 ⟨rfl, hb7⟩
           have H7 := Lib.hid (HS.out.step hb7)
           clear hb7)
        | (with_reducible refine at_oper (.binOp .neq 56 (.tmp 61) (.tmp 62) 56) rfl ?_
           refine wpList_neq_class rfl (.tmp 61) (.tmp 62) rfl (notC x) 0 rfl (congrArg Value.agg ccells_zero) ?_
           rw [HX.out, clB_zero, Bool.not_true]))
      obtain ⟨f1, f2, f3⟩ := cells28 H7.out.box
      go_wp2_with fail
      go_loopw [67] (fun s67 wr => ∃ j : Nat, j ≤ n ∧ s67 = vi j ∧ wr = w7) (fun s67 _ => n - (intOf s67).toNat)
      case atStart => exact ⟨0, Nat.zero_le _, rfl, rfl⟩
      case round =>
        obtain ⟨j, hj, rfl, rfl⟩ := hrel
        by_cases hjn : j < n
        · have d2 : decide ((j : Int) < n) = true := by simp; omega
          obtain ⟨adr, Ar, cr, rfl, _, cr1, hrow⟩ := (HN.out.below H7.out.below).at_ hjn
          have hrl := HV.out.row (d.nxt.getD j []) (getD_mem' (by rw [HM.out.2]; exact hjn))
          rw [hrl.1, HM.out.1] at cr1 hrow
          have HRow := Lib.hid hrow
          have HRl := Lib.hid (HM.out.2 ▸ hrl.2)
          have HLe := Lib.hid (hrl.1.trans HM.out.1)
          have hcr := hrow.cap
          have d5 : ((m : Int) == (m : Int)) = true := by simp
          clear hrow hrl
          go_wp2_with fail
          go_loopw [79] (fun s79 wx => ∃ k : Nat, k ≤ m ∧ s79 = vi k ∧ wx = wr) (fun s79 _ => m - (intOf s79).toNat)
          case atStart => exact ⟨0, Nat.zero_le _, rfl, rfl⟩
          case round =>
            obtain ⟨k, hk, rfl, rfl⟩ := hrel
            by_cases hkm : k < m
            · have d3 : decide ((k : Int) < m) = true := by simp; omega
              obtain ⟨adk, rfl, _, ck⟩ := HRow.out.at_ hkm
              obtain ⟨y, hy⟩ : ∃ y, (d.nxt.getD j []).getD k 0 = y := ⟨_, rfl⟩
              have hyn : y < n := by rw [← hy]; exact HRl.out _ (getD_mem' (by rw [HLe.out]; exact hkm))
              rw [hy] at ck
              have d4 : decide ((y : Int) < 0) = false := by simp
              have d6 : decide ((y : Int) ≥ (n : Int)) = false := by simp [hyn]
              clear hy
              go_wp2_with fail
              go_roundw
              case rel => exact ⟨k + 1, by omega, by go_num, trivial⟩
              case measure => simp [intOf]; omega
            · have d3 : decide ((k : Int) < m) = false := by simp; omega
              go_wp2_with fail
              go_roundw
              case rel => exact ⟨j + 1, by omega, by go_num, trivial⟩
              case measure => simp [intOf]; omega
        · have d2 : decide ((j : Int) < n) = false := by simp; omega
          go_wp2_with fail
          go_ret
          exact ⟨rfl, H7.out.below⟩

abbrev nil28 : Array Value := #[.slice none 0 0, .slice none 0 0, .slice none 0 0]
theorem Tab.mono {w w' : World} (h : Tab w) (hh : 0 < w.heap.size) (hb : Below w.heap.size w w') : Tab w' := h.below hh hb
set_option maxRecDepth 100000 in
theorem canon_c (K : Nat → Prop) (v : Value) (d : Dfa) (w : World) (hd : RD w K v d) (hv : VD d) (hT : Tab w) (hh : 0 < w.heap.size) : Calls Tryz.prog 73 #[v] w
    fun e w' => ∃ u, e = .returned (.tuple #[u, vi 0]) ∧ RD w' (fun k => w.heap.size ≤ k) u (canonical (tableOf d)) ∧ Below w.heap.size w w' := by
  obtain ⟨A1, A2, A3, c1, c2, c3, rfl, _, _, _⟩ := hd.open_
  have HD := Lib.hid (And.intro hd (And.intro hv hT))
  have HW := Lib.hid (tableOf_wt hv)
  obtain ⟨m, hm⟩ : ∃ m, d.cls.length = m := ⟨_, rfl⟩
  obtain ⟨n, hn⟩ : ∃ n, d.nxt.length = n := ⟨_, rfl⟩
  obtain ⟨q, hq⟩ : ∃ q, d.acc.length = q := ⟨_, rfl⟩
  rw [hm, hn, hq] at HD ⊢
  clear hd hv hT hm hn hq
  go_enter Tryz.func73, Tryz.ntmps73
  go_upto_region 1 with fail
  have k0 := Blk.new w 28 #[Value.slice A1 m c1, .slice A2 n c2, .slice A3 q c3]
  have b0 : Below w.heap.size w (w.alloc (.cells #[Value.slice A1 m c1, .slice A2 n c2, .slice A3 q c3] 28)) := (Below.refl _ _).alloc (Nat.le_refl _) _
  have s0 : (w.alloc (.cells #[Value.slice A1 m c1, .slice A2 n c2, .slice A3 q c3] 28)).heap.size = w.heap.size + 1 := by simp
  have k1 := Blk.new (w.alloc (.cells #[Value.slice A1 m c1, .slice A2 n c2, .slice A3 q c3] 28)) 28 nil28
  have b1 : Below (w.heap.size + 1) (w.alloc (.cells #[Value.slice A1 m c1, .slice A2 n c2, .slice A3 q c3] 28)) ((w.alloc (.cells #[Value.slice A1 m c1, .slice A2 n c2, .slice A3 q c3] 28)).alloc (.cells nil28 28)) := (Below.refl _ _).alloc (by omega) _
  rw [s0] at k1
  have H0 := Lib.hid (show Below w.heap.size w ((w.alloc (.cells #[Value.slice A1 m c1, .slice A2 n c2, .slice A3 q c3] 28)).alloc (.cells nil28 28)) ∧ Blk ((w.alloc (.cells #[Value.slice A1 m c1, .slice A2 n c2, .slice A3 q c3] 28)).alloc (.cells nil28 28)) w.heap.size 28 #[Value.slice A1 m c1, .slice A2 n c2, .slice A3 q c3] ∧ Blk ((w.alloc (.cells #[Value.slice A1 m c1, .slice A2 n c2, .slice A3 q c3] 28)).alloc (.cells nil28 28)) (w.heap.size + 1) 28 nil28 from
    ⟨b0.trans (b1.mono (by omega)), k0.alloc _, k1⟩)
  clear k0 b0 s0 k1 b1
  generalize (w.alloc (.cells #[Value.slice A1 m c1, .slice A2 n c2, .slice A3 q c3] 28)).alloc (.cells nil28 28) = w0 at *
  go_upto_region 3 with (first
    | (with_reducible refine at_oper (.load 28 (.tmp 1)) rfl ?_
       refine wpList_load_blk rfl 28 (.tmp 1) rfl w.heap.size rfl 28 #[Value.slice A1 m c1, .slice A2 n c2, .slice A3 q c3] _ H0.out.2.1 Tryz.underlying28 rfl size28 ?_)
    | (go_at_call 18
       refine (valid_c K _ d w0 (HD.out.1.below H0.out.1) HD.out.2.1).mono ?_
       rintro e w3 ⟨rfl, hb⟩
       have H3 := Lib.hid (show Below w.heap.size w w3 ∧ Blk w3 w.heap.size 28 #[Value.slice A1 m c1, .slice A2 n c2, .slice A3 q c3] ∧ Blk w3 (w.heap.size + 1) 28 nil28 from ⟨H0.out.1.trans (hb.mono H0.out.1.size), H0.out.2.1.old hb, H0.out.2.2.old hb⟩)
       clear hb))
  go_wp2_with (first
    | (with_reducible refine at_oper (.load 28 (.tmp 1)) rfl ?_
       refine wpList_load_blk rfl 28 (.tmp 1) rfl w.heap.size rfl 28 #[Value.slice A1 m c1, .slice A2 n c2, .slice A3 q c3] _ H3.out.2.1 Tryz.underlying28 rfl size28 ?_)
    | (go_at_call 23
       refine (tableOf_c K _ d w3 (HD.out.1.below H3.out.1) HD.out.2.1 (HD.out.2.2.below hh H3.out.1) (by have := H3.out.1.size; omega)).mono ?_
       rintro e w4 ⟨cs, rfl, ht, hb⟩
       have H4 := Lib.hid (show RT w4 K cs (tableOf d) ∧ Below w.heap.size w w4 ∧ Blk w4 (w.heap.size + 1) 28 nil28 from ⟨ht, H3.out.1.trans (hb.mono H3.out.1.size), H3.out.2.2.old hb⟩)
       clear ht hb)
    | (go_at_call 75
       refine (canonical_c K cs (tableOf d) w4 H4.out.1 HW.out).mono ?_
       rintro e w5 ⟨v5, rfl, hd5, hb⟩
       obtain ⟨B1, B2, B3, e1, e2, e3, rfl, _, _, _⟩ := hd5.open_
       have H5 := Lib.hid (show RD w5 (fun k => w4.heap.size ≤ k) _ (canonical (tableOf d)) ∧ Below w.heap.size w w5 ∧ Blk w5 (w.heap.size + 1) 28 nil28 from ⟨hd5, H4.out.2.1.trans (hb.mono H4.out.2.1.size), H4.out.2.2.old hb⟩)
       clear hd5 hb)
    | (with_reducible refine at_oper (.store 28 (.tmp 2) (.tmp 10)) rfl ?_
       refine wpList_store_blk rfl 28 (.tmp 2) (.tmp 10) rfl rfl (w.heap.size + 1) #[.slice B1 (canonical (tableOf d)).cls.length e1, .slice B2 (canonical (tableOf d)).nxt.length e2, .slice B3 (canonical (tableOf d)).acc.length e3] nil28 28 rfl rfl H5.out.2.2 size28 rfl (one3 ..) ?_
       intro w6 k6 o6
       have K6 := Lib.hid k6
       have O6 := Lib.hid o6
       clear k6 o6))
  refine bodyPost_ret (results_ct rfl _ _ _ rfl (w.heap.size + 1) rfl 28 _ K6.out Tryz.underlying28 rfl size28) rfl ?_
  have h2 := H4.out.2.2.lt
  exact ⟨_, rfl, (H5.out.1.old fun k hk _ => O6.out.block k (by omega)).weak fun k _ hk => by omega, below_only H5.out.2.1 O6.out (by omega)⟩
end Go.Proofs.YtjgkdfghjeodeaaGreatDoor
