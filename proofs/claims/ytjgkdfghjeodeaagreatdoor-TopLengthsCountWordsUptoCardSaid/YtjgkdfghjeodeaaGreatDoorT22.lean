/- automaton.explore. -/
import Derived.Test.YtjgkdfghjeodeaaGreatDoorT19
namespace Go.Proofs.YtjgkdfghjeodeaaGreatDoor
open Go.RowKit

/-- what 'explore' asks of its functions -/
structure EX (w : World) (bytesL : List Nat) (start : St) (next : St → Nat → St) (accept : St → Bool) (most : Nat) (gn ga : FuncId) (capsN capsA : Array Value) (J : St → Prop) : Prop where
  j0 : J start
  jb : ∀ s, J s → s.p < 9223372036854775808 ∧ s.q < 9223372036854775808 ∧ s.s < 18446744073709551616
  jn : ∀ s b, J s → b ∈ bytesL → J (next s b)
  mle : most ≤ 9223372036854775807
  m1 : 1 ≤ most
  fin : ∀ l : List St, l.Nodup → (∀ s ∈ l, J s) → l.length ≤ most → l.length ≤ 4096
  en : ∀ args w, (callFunc gn args).run Tryz.prog w = .ok (.enter gn args) w
  ea : ∀ args w, (callFunc ga args).run Tryz.prog w = .ok (.enter ga args) w
  cn : ∀ W s b, Below w.heap.size w W → J s → b ∈ bytesL → Calls Tryz.prog gn (#[stV s, vi b] ++ capsN) W fun e W' => e = .returned (stV (next s b)) ∧ Below W.heap.size W W'
  ca : ∀ W s, Below w.heap.size w W → J s → Calls Tryz.prog ga (#[stV s] ++ capsA) W fun e W' => e = .returned (.bool (accept s)) ∧ Below W.heap.size W W'

/-- what 'explore' hands back -/
def ExR (w' : World) (B : Nat) (cs : Array Value) (ok : Bool) : Option Tbl → Prop
  | some t => ok = true ∧ RT w' (fun k => B ≤ k) cs t
  | none => ok = false
theorem at_calls {P : Program} {f : FuncId} {args : Array Value} {w : World} {Q : Ending → World → Prop} (h : Calls P f args w Q) : Calls P f args w Q := h
theorem run_load_st {o : Oper} {ρ : Operand → Value} {w : World} (x : Operand) (ho : o.op = .load 128 x) (p : Addr) (hx : ρ x = .pointer (some p)) (s : St)
    (hc : ∀ j v, (stc s)[j]? = some v → w.cell? (p.add j) = some v) : (execOp ρ o).run Tryz.prog w = .ok (.value (.agg (stc s).toArray)) w := by
  have hl : (loadCells p 3).run Tryz.prog w = .ok (stc s).toArray w := by
    have := run_loadCells_list (P := Tryz.prog) w p (stc s) hc
    simpa [stc] using this
  have hv : (loadVar 128 p).run Tryz.prog w = .ok (.agg (stc s).toArray) w := by
    cases hq : Tryz.prog.info? 128 with
    | none => have := size128; rw [hq] at this; cases this
    | some i =>
      have hs : i.size = 3 := by have := size128; rw [hq] at this; simpa using this
      have hagg : (isAgg 128).run Tryz.prog w = .ok true w := by
        unfold isAgg
        rw [Sem.run_bind, run_underlying Tryz.underlying128 w]
        rfl
      simp [loadVar, Sem.run_bind, hagg, sizeOf, typeInfo, hq, hs, hl]
  unfold execOp
  simp only [ho, hx, Instr.loadAt, Instr.sureAddr, Sem.run_bind, Sem.run_pure, Result.andThen_ok, hv]
theorem z73_one : Tryz.zeroCells73.all (·.oneCell') = true := by
  rw [z73_eq]
  decide +kernel
theorem st_ok {J : St → Prop} {w : World} {bytesL : List Nat} {start : St} {next : St → Nat → St} {accept : St → Bool} {most : Nat} {gn ga : FuncId} {capsN capsA : Array Value} (h : EX w bytesL start next accept most gn ga capsN capsA J) {s : St} (hs : J s) : s.p < 9223372036854775808 ∧ s.q < 9223372036854775808 ∧ s.s < 18446744073709551616 := h.jb s hs
set_option maxRecDepth 100000 in
set_option maxHeartbeats 4000000 in
theorem explore_c (Kb : Nat → Prop) (cellL bytesL : List Nat) (start : St) (next : St → Nat → St) (accept : St → Bool) (most : Nat) (Ab : Option Addr) (cb : Nat) (gn ga : FuncId) (capsN capsA : Array Value) (J : St → Prop) (w : World)
    (hcl : cellL.length = 256) (hclt : Lt 1048577 cellL) (hby : RN w Kb Ab bytesL.length cb bytesL) (hb2 : bytesL.length ≤ 256) (hX : EX w bytesL start next accept most gn ga capsN capsA J) :
    Calls Tryz.prog 83 #[.agg (via cellL), .slice Ab bytesL.length cb, stV start, .func (.func gn) #[] capsN, .func (.func ga) #[] capsA, .int .i64 (most : Int)] w
    fun e w' => ∃ cs ok, e = .returned (.tuple #[.agg cs, .bool ok]) ∧ Below w.heap.size w w' ∧ cs.size = 259 ∧ cs.all (·.oneCell') = true ∧ ExR w' w.heap.size cs ok (explore cellL bytesL start next accept most 5000) := by
  obtain ⟨nb, hnb⟩ : ∃ nb, bytesL.length = nb := ⟨_, rfl⟩
  have HX := Lib.hid hX
  rw [hnb] at hby hb2 ⊢
  have HBy := Lib.hid hby
  have hbc := hby.cap
  have HNb := Lib.hid hnb
  have HCl := Lib.hid (And.intro hcl hclt)
  obtain ⟨V, hV⟩ : ∃ V, via cellL = V := ⟨_, rfl⟩
  have HV := Lib.hid hV
  have hVs : V.size = 256 := by rw [← hV, via_size, hcl]
  rw [hV]
  clear hX hby hnb hcl hclt hV
  go_enter Tryz.func83, Tryz.ntmps83
  unfold stV
  go_upto_region 4 with (first
    | (with_reducible refine at_oper (.box 71 (.tmp 0)) rfl ?_
       refine wpList_box_rowG w.heap.size rfl rfl 71 (.tmp 0) rfl V rfl ?_
       intro w1 k1 b1 s1)
    | (with_reducible refine at_oper (.box 128 (.tmp 2)) rfl ?_
       refine wpList_box_rowG (w.heap.size + 1) s1 rfl 128 (.tmp 2) rfl (stc start).toArray rfl ?_
       intro w2 k2 b2 s2)
    | (with_reducible refine at_oper (.alloc 73) rfl ?_
       first
       | (refine wpList_alloc_rowG (w.heap.size + 1 + 1) s2 rfl 73 rfl _ Tryz.zeroValue73 ?_
          intro w3 k3 b3 s3
          have H3 := Lib.hid (show Below w.heap.size w w3 ∧ Blk w3 w.heap.size 71 V ∧ Blk w3 (w.heap.size + 1) 128 (stc start).toArray ∧ Blk w3 (w.heap.size + 1 + 1) 73 Tryz.zeroCells73 from
            ⟨(b1.trans (b2.mono b1.size)).trans (b3.mono (b1.trans (b2.mono b1.size)).size), (k1.old b2).old b3, k2.old b3, k3⟩)
          clear k1 k2 k3 b1 b2 b3)
       | (refine wpList_alloc_rowG (w.heap.size + 1 + 1 + 1) s3 rfl 73 rfl _ Tryz.zeroValue73 ?_
          intro w4 k4 b4 s4))
    | (with_reducible refine at_oper (.load 71 (.tmp 6)) rfl ?_
       refine wpList_load_blk rfl 71 (.tmp 6) rfl w.heap.size rfl 71 V _ H3.out.2.1 Tryz.underlying71 rfl (by rw [hVs]; exact size71) ?_)
    | (with_reducible refine at_oper (.build 73 #[(0, .tmp 24), (1, .tmp 26)]) rfl ?_
       refine wpList_build73 rfl (.tmp 24) (.tmp 26) rfl V cellL nb rfl rfl HV.out HCl.out.1 ?_
       intro X eX sX oX
       have HE := Lib.hid eX
       clear eX)
    | (with_reducible refine at_oper (.store 73 (.tmp 14) (.tmp 27)) rfl ?_
       refine wpList_store_blk rfl 73 (.tmp 14) (.tmp 27) rfl rfl (w.heap.size + 1 + 1 + 1) X Tryz.zeroCells73 73 rfl rfl k4 (by rw [sX]; exact size73) (by rw [sX]; exact Tryz.zeroCells73_size) oX ?_
       intro w5 k5 o5
       have H5 := Lib.hid (show Below w.heap.size w w5 ∧ Blk w5 (w.heap.size + 1) 128 (stc start).toArray ∧ Blk w5 (w.heap.size + 1 + 1) 73 Tryz.zeroCells73 ∧ Blk w5 (w.heap.size + 1 + 1 + 1) 73 (tcells ⟨cellL, nb, [], []⟩ none none 0 0) from
         ⟨below_only (H3.out.1.trans (b4.mono H3.out.1.size)) o5 (by omega), (H3.out.2.2.1.old b4).only o5 (by omega), (H3.out.2.2.2.old b4).only o5 (by omega), by
           rw [HE.out] at k5
           exact k5⟩)
       have s5 : w5.heap.size = w.heap.size + 1 + 1 + 1 + 1 := by rw [o5.size, s4]
       clear k4 k5 b4 o5 H3)
    | (with_reducible refine at_oper (.makeMap 164 none) rfl ?_
       refine wpList_makeMapG 128 stV (w.heap.size + 1 + 1 + 1 + 1) s5 rfl 164 rfl ?_
       intro w6 k6 b6 s6)
    | (with_reducible refine at_oper (.load 128 (.tmp 8)) rfl ?_
       first
       | refine wpList_load_blk rfl 128 (.tmp 8) rfl (w.heap.size + 1) rfl 128 #[.int .i64 (start.p : Int), .int .i64 (start.q : Int), .int .u64 (start.s : Int)] _ (H5.out.2.1.old b6) Tryz.underlying128 rfl size128 ?_
       | refine wpList_load_blk rfl 128 (.tmp 8) rfl (w.heap.size + 1) rfl 128 #[.int .i64 (start.p : Int), .int .i64 (start.q : Int), .int .u64 (start.s : Int)] _ H7.out.2.1 Tryz.underlying128 rfl size128 ?_)
    | (with_reducible refine at_oper (.insert 164 (.tmp 28) (.tmp 29) (.const (.int .i64 0))) rfl ?_
       refine wpList_insert_as 164 (.tmp 28) (.tmp 29) (.const (.int .i64 0)) rfl ?_
       refine wpList_mapUpdate_id rfl (.tmp 28) (.tmp 29) (.const (.int .i64 0)) 164 rfl kt_st Tryz.underlying164 rfl k6 start (st_ok HX.out HX.out.j0) (by simp) rfl rfl (by simp) ?_
       intro w7 k7 g7
       have hb7 := (H5.out.1.trans (b6.mono H5.out.1.size))
       have H7 := Lib.hid (show Below w.heap.size w w7 ∧ Blk w7 (w.heap.size + 1) 128 (stc start).toArray ∧ Blk w7 (w.heap.size + 1 + 1) 73 Tryz.zeroCells73 ∧ Blk w7 (w.heap.size + 1 + 1 + 1) 73 (tcells ⟨cellL, nb, [], []⟩ none none 0 0) ∧ IdMap 128 stV w7 (w.heap.size + 1 + 1 + 1 + 1) [start] from
         ⟨below_grown hb7 g7 (by omega) (fun k e => by cases e; omega), (H5.out.2.1.old b6).grown g7 (fun e => by injection e with e; omega), (H5.out.2.2.1.old b6).grown g7 (fun e => by injection e with e; omega), (H5.out.2.2.2.old b6).grown g7 (fun e => by injection e with e; omega), k7⟩)
       clear hb7 k7 g7 k6 b6 s6 H5))
  have H8 := Lib.hid (show ES w (w7.alloc (.cells #[.int .i64 (start.p : Int), .int .i64 (start.q : Int), .int .u64 (start.s : Int)] 128)) (w.heap.size + 1 + 1) (w.heap.size + 1 + 1 + 1) (w.heap.size + 1 + 1 + 1 + 1) w7.heap.size cellL nb [start] [] [] [] 0 (some ⟨w7.heap.size, 0, none⟩) 1 none 0 none 0 from by
    have hb8 : Below w7.heap.size w7 (w7.alloc (.cells #[.int .i64 (start.p : Int), .int .i64 (start.q : Int), .int .u64 (start.s : Int)] 128)) := (Below.refl _ _).alloc (Nat.le_refl _) _
    have hl := H7.out.2.2.2.2.lt
    exact ⟨⟨by omega, by omega, by omega, hl⟩, H7.out.1.trans (hb8.mono H7.out.1.size), H7.out.2.2.1.old hb8, H7.out.2.2.2.1.old hb8, H7.out.2.2.2.2.below hb8,
      OwnS.lit 128 3 1 (stc start).toArray (Nat.le_refl _) (by omega) rfl, Own.nil_ _ _ _, Own.nil_ _ _ _, ⟨rfl, fun j u hu => by simp at hu⟩, Nat.zero_le _, hb8.size⟩)
  clear H7 s1 s2 s3 s4 s5 oX sX HE
  generalize w7.heap.size = base at *
  generalize w7.alloc (.cells #[.int .i64 (start.p : Int), .int .i64 (start.q : Int), .int .u64 (start.s : Int)] 128) = w8 at *
  generalize w.heap.size + 1 + 1 + 1 + 1 = gm at *
  generalize w.heap.size + 1 + 1 + 1 = gt at *
  generalize w.heap.size + 1 + 1 = gr at *
  obtain ⟨R, hR⟩ : ∃ R, exLoop bytesL next accept most 5000 0 [start] [] [] = R := ⟨_, rfl⟩
  have HR := Lib.hid hR
  have hm9 := HX.out.mle
  have hm1 := HX.out.m1
  clear hR
  go_wp2_with fail
  go_loopw [16, 17] (fun s16 s17 wr => ∃ (i f : Nat) (l : List St) (ns : List (List Nat)) (acs : List Bool) (us : List Value) (B : Nat) (Al : Option Addr) (cl : Nat) (An : Option Addr) (cn : Nat) (Aa : Option Addr) (ca : Nat), s17 = vi i ∧ s16 = .slice Al l.length cl ∧ ES w wr gr gt gm base cellL nb l ns acs us B Al cl An cn Aa ca ∧ l.Nodup ∧ (∀ s ∈ l, J s) ∧ l.length ≤ most ∧ i ≤ l.length ∧ ns.length = i ∧ acs.length = i ∧ f + i = 5000 ∧ exLoop bytesL next accept most f i l ns acs = R) (fun _ s17 _ => 5000 - (intOf s17).toNat)
  case atStart => exact ⟨0, 5000, [start], [], [], [], _, _, _, _, _, _, _, rfl, rfl, H8.out, by simp, fun s hs => by simp at hs; rw [hs]; exact HX.out.j0, by simpa using hm1, by simp, rfl, rfl, rfl, HR.out⟩
  case round =>
    clear H8
    obtain ⟨i, f, l, ns, acs, us, B, Al, cl, An, cn, Aa, ca, rfl, rfl, hes, hnd, hj, hlm, hil, hnl, hal, hfu, hq⟩ := hrel
    have hl4 := HX.out.fin l hnd hj hlm
    have HES := Lib.hid hes
    have HLs := Lib.hid (And.intro hnd (And.intro hj (And.intro hnl (And.intro hal hfu))))
    have HQ := Lib.hid hq
    have hns : ns.length ≤ 4096 := by omega
    have has : acs.length ≤ 4096 := by omega
    have hlc := hes.lst.cap.1
    have hord := hes.ord
    clear hes hnd hj hnl hal hq
    by_cases hio : i < l.length
    · have d2 : decide ((i : Int) < (l.length : Int)) = true := by simp; omega
      have hf1 : f = (f - 1) + 1 := by omega
      have HF := Lib.hid hf1
      clear hf1 hfu
      obtain ⟨st, hst⟩ : ∃ st, l.getD i start = st := ⟨_, rfl⟩
      have hstl : st ∈ l := by rw [← hst]; exact getD_mem' hio
      have hlst : l[i]? = some st := by rw [← hst]; simp [hio]
      have HSt := Lib.hid (And.intro hlst (HLs.out.2.1 st hstl))
      have HFr := Lib.hid (show KX base Al An Aa wr.heap.size ∧ B ≤ wr.heap.size from
        ⟨⟨HES.out.bz, fun e => by have := (HES.out.lst.lt _ e).2; omega, fun e => by have := (HES.out.nx.lt _ e).2; omega, fun e => by have := (HES.out.ac.lt _ e).2; omega⟩, HES.out.bd⟩)
      clear hst hstl hlst
      go_upto_region 8 with (first
        | (with_reducible refine at_oper (.makeSlice 64 (.tmp 40) (.tmp 40)) rfl ?_
           refine wpList_makeFullG wr.heap.size rfl rfl (.tmp 40) (.tmp 40) 64 rfl (.int .i64 0) Tryz.underlying64 info3 rfl nb rfl rfl (by omega) (by omega) ?_
           intro w9 k9 b9 s9
           rw [via_rep] at k9
           have HK9 := Lib.hid (And.intro k9 (HES.out.step b9))
           clear k9 b9 s9))
      generalize wr.heap.size = gw at *
      go_wp2_with fail
      go_loopw [16, 44] (fun s16 s44 wx => ∃ (k : Nat) (l' : List St) (row : List Nat) (Al' : Option Addr) (cl' : Nat), k ≤ nb ∧ s44 = vi k ∧ s16 = .slice Al' l'.length cl' ∧ ES w wx gr gt gm base cellL nb l' ns acs us B Al' cl' An cn Aa ca ∧ KX base Al' An Aa gw ∧ Blk wx gw 3 (via (row ++ List.replicate (nb - row.length) 0)) ∧ row.length = k ∧ l'.Nodup ∧ (∀ s ∈ l', J s) ∧ l'.length ≤ most ∧ (∃ m, l' = l ++ m) ∧ Lt 5000 row ∧ exRow next most st (bytesL.drop k) l' row = exRow next most st bytesL l []) (fun _ s44 _ => nb - (intOf s44).toNat)
      case atStart => exact ⟨0, l, [], Al, cl, Nat.zero_le _, rfl, rfl, HK9.out.2, HFr.out.1, HK9.out.1, rfl, HLs.out.1, HLs.out.2.1, hlm, ⟨[], by simp⟩, fun x hx => by simp at hx, rfl⟩
      case round =>
        clear HK9
        obtain ⟨k, l', row, Al', cl', hk, rfl, rfl, hes', hkx, hrb, hrl, hnd', hj', hlm', hpre, hr5, hrow⟩ := hrel
        have hl4' := HX.out.fin l' hnd' hj' hlm'
        have HES' := Lib.hid hes'
        have HKX := Lib.hid hkx
        have HRB := Lib.hid hrb
        have HL' := Lib.hid (And.intro hnd' (And.intro hj' (And.intro hpre (And.intro hr5 (And.intro hrow hrl)))))
        have hlc' := hes'.lst.cap.1
        have hil' : i < l'.length := by obtain ⟨m, rfl⟩ := hpre; simp; omega
        have hgl : l'.getD i start = st := by
          obtain ⟨m, rfl⟩ := hpre
          rw [List.getD_eq_getElem?_getD, List.getElem?_append_left hio, HSt.out.1]; rfl
        clear hkx hrb hnd' hj' hr5 hrow hrl hpre
        by_cases hkn : k < nb
        · have d3 : decide ((k : Int) < nb) = true := by simp; omega
          obtain ⟨adb, rfl, _, cb0⟩ := (HBy.out.below hes'.below).at_ hkn
          have hkl : k < bytesL.length := by rw [HNb.out]; exact hkn
          obtain ⟨b, hb⟩ : ∃ b, bytesL.getD k 0 = b := ⟨_, rfl⟩
          have hbm : b ∈ bytesL := by rw [← hb]; exact getD_mem' hkl
          have hdr := getD_drop hkl
          rw [hb] at cb0 hdr
          obtain ⟨adl, hadl, hcl⟩ := hes'.lst.st_at hil' start
          rw [hgl] at hcl
          subst hadl
          have HCl2 := Lib.hid hcl
          have HJn := Lib.hid (HX.out.jn st b HSt.out.2 hbm)
          have HBm := Lib.hid (And.intro hbm hdr)
          clear hbm hdr hb hkl hcl hgl hes'
          have en := HX.out.en
          go_upto_region 12 with (first
            | (with_reducible refine at_oper (.load 128 (.tmp 52)) rfl ?_
               refine wpList_load_list rfl 128 (.tmp 52) rfl (adl.add (i * 3)) rfl (stc st) HCl2.out Tryz.underlying128 rfl size128 ?_)
            | (with_reducible refine at_calls ?_
               refine (HX.out.cn wr st b HES'.out.below HSt.out.2 HBm.out.1).mono ?_
               rintro e w10 ⟨rfl, hb10⟩
               obtain ⟨nx, hnx⟩ : ∃ nx, next st b = nx := ⟨_, rfl⟩
               rw [hnx]
               unfold stV
               have HNx := Lib.hid (And.intro hnx (hnx ▸ HJn.out))
               have H10 := Lib.hid (And.intro (HES'.out.step hb10) (HRB.out.old hb10))
               have HGm := Lib.hid H10.out.1.map.lt
               clear hb10 hnx HCl2)
            | (with_reducible refine at_oper (.alloc 128) rfl ?_
               refine wpList_alloc_rowG w10.heap.size rfl rfl 128 rfl _ Tryz.zeroValue128 ?_
               intro w11 k11 b11 s11)
            | (with_reducible refine at_oper (.store 128 (.tmp 21) (.tmp 55)) rfl ?_
               refine wpList_store_blk rfl 128 (.tmp 21) (.tmp 55) rfl rfl w10.heap.size (stc nx).toArray _ 128 rfl rfl k11 size128 rfl (stc_all nx) ?_
               intro w12 k12 o12
               have hb12 := below_only b11 o12 (Nat.le_refl _)
               have H12 := Lib.hid (And.intro (H10.out.1.step hb12) (And.intro (H10.out.2.old hb12) k12))
               clear k11 b11 s11 k12 o12 hb12 H10 HES' HRB))
          have HGn := Lib.hid (show gm < w10.heap.size from HGm.out)
          clear en HGm
          generalize w10.heap.size = gn2 at *
          have HL3 := Lib.hid (show ∀ X, exRow next most st (b :: bytesL.drop (k + 1)) l' row = X → (match idxK nx l' 0 with
              | some id => exRow next most st (bytesL.drop (k + 1)) l' (row ++ [id])
              | none => if l'.length = most then none else exRow next most st (bytesL.drop (k + 1)) (l' ++ [nx]) (row ++ [l'.length])) = X from fun X h => by
            rw [exRow] at h
            simp only [HNx.out.1] at h
            exact h)
          obtain ⟨r, hr⟩ : ∃ r, idxK nx l' 0 = r := ⟨_, rfl⟩
          have HR2 := Lib.hid hr
          have hgwb : k < (via (row ++ List.replicate (nb - row.length) 0)).size := by rw [via_size, List.length_append, List.length_replicate, HL'.out.2.2.2.2.2]; omega
          have HGw := Lib.hid hgwb
          clear hr hgwb
          cases r with
          | some id =>
            have hid := (idxK_is _ _ HR2.out).2
            go_wp2_with (first
              | (with_reducible refine at_oper (.load 128 (.tmp 21)) rfl ?_
                 refine wpList_load_blk rfl 128 (.tmp 21) rfl gn2 rfl 128 (stc nx).toArray _ H12.out.2.2 Tryz.underlying128 rfl size128 ?_)
              | (with_reducible refine at_oper (.lookup 164 (.tmp 57) (.tmp 58) true) rfl ?_
                 refine wpList_lookup_id rfl (.tmp 57) (.tmp 58) 164 rfl kt_st Tryz.underlying164 rfl H12.out.1.map nx (st_ok HX.out HNx.out.2) rfl ?_
                 intro cI hcI
                 obtain rfl := hcI id HR2.out
                 rw [HR2.out]
                 clear hcI)
              | (with_reducible refine at_oper (.store 3 (.tmp 80) (.tmp 79)) rfl ?_
                 refine wpList_store_at rfl 3 (.tmp 80) (.tmp 79) rfl rfl gw k (vi id) (via (row ++ List.replicate (nb - row.length) 0)) 3 rfl rfl H12.out.2.1 HGw.out size3 rfl ?_
                 intro w13 k13 o13
                 have H13 := Lib.hid (And.intro (H12.out.1.only o13 HKX.out HFr.out.2) k13)
                 clear k13 o13))
            go_roundw
            case rel =>
              have h3 := H13.out.2
              rw [via_set, rowl_set _ _ _ _ HL'.out.2.2.2.2.2 hkn] at h3
              have h4 := HL'.out.2.2.2.2.1
              rw [HBm.out.2] at h4
              have h5 := HL3.out _ h4
              simp only [HR2.out] at h5
              exact ⟨k + 1, l', row ++ [id], some adl, cl', by omega, by go_num, rfl, H13.out.1, HKX.out, h3, by simp [HL'.out.2.2.2.2.2], HL'.out.1, HL'.out.2.1, hlm', HL'.out.2.2.1, fun z hz => by
                rcases List.mem_append.1 hz with h1 | h1
                · exact HL'.out.2.2.2.1 z h1
                · simp at h1; omega, h5⟩
            case measure => simp [intOf]; omega
          | none =>
            have HNK := Lib.hid (show nx ∉ l' from (idxK_none _ _ 0).1 HR2.out)
            by_cases hmm : l'.length = most
            · have d4 : ((l'.length : Int) == (most : Int)) = true := by simp; omega
              have HMm := Lib.hid hmm
              clear hmm
              go_wp2_with (first
                | (with_reducible refine at_oper (.load 128 (.tmp 21)) rfl ?_
                   refine wpList_load_blk rfl 128 (.tmp 21) rfl gn2 rfl 128 (stc nx).toArray _ H12.out.2.2 Tryz.underlying128 rfl size128 ?_)
                | (with_reducible refine at_oper (.lookup 164 (.tmp 57) (.tmp 58) true) rfl ?_
                   refine wpList_lookup_id rfl (.tmp 57) (.tmp 58) 164 rfl kt_st Tryz.underlying164 rfl H12.out.1.map nx (st_ok HX.out HNx.out.2) rfl ?_
                   intro cI _
                   rw [HR2.out])
                | (with_reducible refine at_oper (.store 73 (.tmp 12) (.tmp 69)) rfl ?_
                   refine wpList_store_blk rfl 73 (.tmp 12) (.tmp 69) rfl rfl gr Tryz.zeroCells73 Tryz.zeroCells73 73 rfl rfl H12.out.1.res (by rw [Tryz.zeroCells73_size]; exact size73) rfl z73_one ?_
                   intro w13 k13 o13
                   have K13 := Lib.hid k13
                   have O13 := Lib.hid o13
                   clear k13 o13))
              refine bodyPost_ret (results_ct rfl _ _ _ rfl gr rfl 73 _ K13.out Tryz.underlying73 rfl (by rw [Tryz.zeroCells73_size]; exact size73)) rfl ?_
              refine ⟨_, false, rfl, below_only H12.out.1.below O13.out hord.1, Tryz.zeroCells73_size, z73_one, ?_⟩
              have h4 := HL'.out.2.2.2.2.1
              rw [HBm.out.2] at h4
              have h5 := HL3.out _ h4
              simp only [HR2.out, HMm.out, if_true] at h5
              have h6 := HQ.out
              rw [HF.out, exLoop, HSt.out.1] at h6
              simp only [← h5] at h6
              have h7 : explore cellL bytesL start next accept most 5000 = none := by
                unfold explore
                rw [HR.out, ← h6]; rfl
              rw [h7]
              rfl
            · have d4 : ((l'.length : Int) == (most : Int)) = false := by simp; omega
              have HMm := Lib.hid hmm
              have hlt' : l'.length < most := by omega
              clear hmm
              go_wp2_with (first
                | (with_reducible refine at_oper (.load 128 (.tmp 21)) rfl ?_
                   first
                   | refine wpList_load_blk rfl 128 (.tmp 21) rfl gn2 rfl 128 #[.int .i64 (nx.p : Int), .int .i64 (nx.q : Int), .int .u64 (nx.s : Int)] _ H12.out.2.2 Tryz.underlying128 rfl size128 ?_
                   | refine wpList_load_blk rfl 128 (.tmp 21) rfl gn2 rfl 128 #[.int .i64 (nx.p : Int), .int .i64 (nx.q : Int), .int .u64 (nx.s : Int)] _ H13.out.2.2.2.2 Tryz.underlying128 rfl size128 ?_)
                | (with_reducible refine at_oper (.lookup 164 (.tmp 57) (.tmp 58) true) rfl ?_
                   refine wpList_lookup_id rfl (.tmp 57) (.tmp 58) 164 rfl kt_st Tryz.underlying164 rfl H12.out.1.map nx (st_ok HX.out HNx.out.2) rfl ?_
                   intro cI _
                   rw [HR2.out])
                | (with_reducible refine at_oper (.mapUpdate 164 (.tmp 70) (.tmp 71) (.tmp 72)) rfl ?_
                   refine wpList_mapUpdate_id rfl (.tmp 70) (.tmp 71) (.tmp 72) 164 rfl kt_st Tryz.underlying164 rfl H12.out.1.map nx (st_ok HX.out HNx.out.2) HNK.out rfl rfl (by omega) ?_
                   intro w13 k13 g13
                   have hgw : gm < gw := by have := HKX.out.1; omega
                   have H13 := Lib.hid (And.intro k13 (And.intro g13 (And.intro (H12.out.1.lst.keepg g13 fun g e h => by have := (H12.out.1.lst.lt _ e).1; cases h; omega) (And.intro (H12.out.2.1.grown g13 (fun e => by cases e; omega)) (H12.out.2.2.grown g13 (fun e => by have := HGn.out; cases e; omega))))))
                   clear k13 g13)
                | (at_builtin
                   refine wpList_appendSS rfl (.tmp 73) (.tmp 75) 165 rfl app165 base (some adl) l'.length cl' (stl l') rfl (H13.out.2.2.1.alloc _) _ 1 1 (stc nx) rfl rfl (K := TT) ((Blk.new _ 128 (stc nx).toArray).sl.weak fun _ _ _ => trivial) (stc_one nx) (by omega) (by omega) (by have := H12.out.1.bz; have := H13.out.2.1.size; rw [World.size_alloc]; omega) ?_
                   intro A14 c14 w14 hown hgr hA
                   have H14 := Lib.hid (And.intro (H12.out.1.put H13.out.1 H13.out.2.1 rfl hown hgr hA) (And.intro ((H13.out.2.2.2.1.alloc _).grown hgr HKX.out.2.1) (show KX base A14 An Aa gw from ⟨HKX.out.1, obl_moved hA HKX.out.2.1 (by have := (H13.out.2.2.2.1.alloc (.cells (stc nx).toArray 128)).lt; exact this), HKX.out.2.2⟩)))
                   clear hown hgr hA)
                | (with_reducible refine at_oper (.store 3 (.tmp 80) (.tmp 79)) rfl ?_
                   refine wpList_store_at rfl 3 (.tmp 80) (.tmp 79) rfl rfl gw k (vi l'.length) (via (row ++ List.replicate (nb - row.length) 0)) 3 rfl rfl H14.out.2.1 HGw.out size3 rfl ?_
                   intro w15 k15 o15
                   have H15 := Lib.hid (And.intro (H14.out.1.only o15 H14.out.2.2 HFr.out.2) k15)
                   clear k15 o15))
              go_roundw
              case rel =>
                have h3 := H15.out.2
                rw [via_set, rowl_set _ _ _ _ HL'.out.2.2.2.2.2 hkn] at h3
                have h4 := HL'.out.2.2.2.2.1
                rw [HBm.out.2] at h4
                have h5 := HL3.out _ h4
                simp only [HR2.out, if_neg HMm.out] at h5
                exact ⟨k + 1, l' ++ [nx], row ++ [l'.length], A14, c14, by omega, by go_num, by simp, H15.out.1, H14.out.2.2, h3, by simp [HL'.out.2.2.2.2.2], by
                  rw [List.nodup_append]
                  exact ⟨HL'.out.1, by simp, fun a ha b hb => by simp at hb; subst hb; exact fun e => HNK.out (e ▸ ha)⟩, fun s hs => by
                  rcases List.mem_append.1 hs with h1 | h1
                  · exact HL'.out.2.1 s h1
                  · simp at h1; rw [h1]; exact HNx.out.2, by simp; omega, by
                  obtain ⟨m, hm⟩ := HL'.out.2.2.1
                  exact ⟨m ++ [nx], by rw [hm, List.append_assoc]⟩, fun z hz => by
                  rcases List.mem_append.1 hz with h1 | h1
                  · exact HL'.out.2.2.2.1 z h1
                  · simp at h1; omega, h5⟩
              case measure => simp [intOf]; omega
        · have d3 : decide ((k : Int) < nb) = false := by simp; omega
          have hkn' : k = nb := by omega
          have HE := Lib.hid (show some (l', row) = exRow next most st bytesL l [] by
            have := HL'.out.2.2.2.2.1
            rwa [List.drop_of_length_le (by rw [HNb.out]; omega), exRow] at this)
          have hrb := HRB.out
          rw [HL'.out.2.2.2.2.2, hkn', Nat.sub_self, List.replicate_zero, List.append_nil] at hrb
          have HRN := Lib.hid (show RN wr (fun k => KX base Al' An Aa k) (some ⟨gw, 0, none⟩) nb nb row from
            (hrb.rn (by rw [HL'.out.2.2.2.2.2]; exact hkn') (by omega) (lt_mono HL'.out.2.2.2.1 (by decide))).weak fun k _ hk => by rw [hk]; exact HKX.out)
          have cd1 : wr.cell? ⟨gt, 257, none⟩ = some (.slice An ns.length cn) := (HES'.out.tab.cell 257).trans (tcells_257 (t := ⟨cellL, nb, ns, acs⟩) HCl.out.1)
          have hnc := hes'.nx.cap.1
          clear hrb hkn' hes' hgl
          go_upto_region 22 with (first
            | (at_builtin
               refine wpList_push rfl (.tmp 83) (.tmp 85) 25 rfl app25 base An ns.length cn us rfl (HES'.out.nx.alloc _) _ (.slice (some ⟨gw, 0, none⟩) nb nb) rfl ((Blk.new _ 64 _).cell 0) rfl (by omega) (by omega) (by have := HES'.out.bz; rw [World.size_alloc]; omega) ?_
               intro A9 c9 w9 hown hgr hA
               have HP := Lib.hid (And.intro hown (And.intro hgr hA))
               have HD9 := Lib.hid ((HES'.out.tab.alloc _).grown hgr fun e => by have := (HES'.out.nx.lt _ e).1; omega)
               clear hown hgr hA)
            | (with_reducible refine at_oper (.store 25 (.tmp 87) (.tmp 86)) rfl ?_
               refine wpList_store_at rfl 25 (.tmp 87) (.tmp 86) rfl rfl gt 257 (.slice A9 (ns.length + 1) c9) _ 73 rfl rfl HD9.out (by simp [tcells, vis_len, HCl.out.1]) size25 rfl ?_
               intro w10 k10 o10
               have HC10 := Lib.hid (HES'.out.pushn HCl.out.1 HRN.out HP.out.1 HP.out.2.1 HP.out.2.2 k10 o10)
               clear k10 o10))
          clear cd1
          obtain ⟨adl, hadl, hcl⟩ := HC10.out.lst.st_at hil' start
          have hgl2 : l'.getD i start = st := by
            obtain ⟨m, hm⟩ := HL'.out.2.2.1
            rw [hm, List.getD_eq_getElem?_getD, List.getElem?_append_left hio, HSt.out.1]; rfl
          rw [hgl2] at hcl
          subst hadl
          have cd2 : w10.cell? ⟨gt, 258, none⟩ = some (.slice Aa acs.length ca) := (HC10.out.tab.cell 258).trans (tcells_258 (t := ⟨cellL, nb, ns ++ [row], acs⟩) HCl.out.1)
          have ea := HX.out.ea
          clear hgl2
          have hS : ∀ W, Below w10.heap.size w10 W → W.cell? ⟨gt, 258, none⟩ = some (.slice Aa acs.length ca) ∧ ∀ j v, (stc st)[j]? = some v → W.cell? ((adl.add (i * 3)).add j) = some v := fun W hW => ⟨cell_below hW cd2, fun j v hj => cell_below hW (hcl j v hj)⟩
          have HSS := Lib.hid hS
          refine wp_region_ws (by kernel_rfl) [true, true, true, true, true, true, true, false, false, false, false, false] 9 (fun W => W.cell? ⟨gt, 258, none⟩ = some (.slice Aa acs.length ca) ∧ ∀ j v, (stc st)[j]? = some v → W.cell? ((adl.add (i * 3)).add j) = some v) (by decide +kernel) (fun _ _ d _ _ h => by cases d <;> exact h) (hS _ (Below.refl _ _).drew) ?_
          clear cd2 hcl hS
          iterate 6 (refine ws_r ?_ (fun W hS => ?_) ?_; rotate_left; (focus (have q1 := hS.1; clear hS; go_simp; first | done | rfl)); simp only [Act.put, List.setIfInBounds_toArray, List.set_cons_zero, List.set_cons_succ])
          refine ws_r ?_ (fun W hS => ?_) ?_
          rotate_left
          · refine run_load_st (.tmp 93) ?_ (adl.add (i * 3)) ?_ st hS.2 <;> rfl
          simp only [Act.put, List.setIfInBounds_toArray, List.set_cons_zero, List.set_cons_succ]
          refine ws_c ?_
          obtain ⟨y, hy⟩ : ∃ y, accept st = y := ⟨_, rfl⟩
          have HY := Lib.hid hy
          clear hy
          go_wp2_with (first
            | (with_reducible refine at_calls ?_
               refine (HX.out.ca w10.drew st (HC10.out.below.trans ⟨rfl, rfl, rfl, Nat.le_refl _, fun _ _ => rfl⟩) HSt.out.2).mono ?_
               rintro e w11 ⟨rfl, hb11⟩
               rw [HY.out]
               have H11 := Lib.hid (show Below w10.heap.size w10 w11 from (Below.refl _ _).drew.trans hb11)
               clear hb11))
          have hB11 := H11.out
          have HC11 := Lib.hid (HC10.out.step hB11)
          dsimp only [segQ]
          refine ⟨fun _ => HSS.out _ hB11, ws_c ?_⟩
          clear ea
          go_wp2_with fail
          dsimp only [segQ]
          have hb11 : Below w10.heap.size w10 (w11.alloc (.cells #[.bool y] 4)) := hB11.alloc (by have := hB11.size; omega) _
          refine ⟨fun _ => HSS.out _ hb11, ws_c ?_⟩
          have hac := HC11.out.ac.cap.1
          go_wp2_with (first
            | (at_builtin
               refine wpList_push rfl (.tmp 89) (.tmp 96) 26 rfl app26 base Aa acs.length ca (acs.map Value.bool) rfl (HC11.out.ac.alloc _) _ (.bool y) rfl ((Blk.new w11 4 #[.bool y]).cell 0) rfl (by omega) (by omega) (by have := HC11.out.bz; rw [World.size_alloc]; omega) ?_
               intro A12 c12 w12 hown hgr hA
               have HP := Lib.hid (And.intro hown (And.intro hgr hA))
               have HD12 := Lib.hid ((Blk.alloc HC11.out.tab _).grown hgr fun e => by have := (HC11.out.ac.lt _ e).1; omega)
               clear hown hgr hA))
          first
            | refine ws_c ?_
            | (dsimp only [segQ]
               refine ⟨fun h => absurd h (by decide), ws_c ?_⟩)
          go_wp2_with fail
          first
            | refine ws_c ?_
            | (dsimp only [segQ]
               refine ⟨fun h => absurd h (by decide), ws_c ?_⟩)
          go_wp2_with (first
            | (with_reducible refine at_oper (.store 26 (.tmp 98) (.tmp 97)) rfl ?_
               refine wpList_store_at rfl 26 (.tmp 98) (.tmp 97) rfl rfl gt 258 (.slice A12 (acs.length + 1) c12) _ 73 rfl rfl HD12.out (by simp [tcells, vis_len, HCl.out.1]) size26 rfl ?_
               intro w13 k13 o13
               have HC13 := Lib.hid (HC11.out.pusha HCl.out.1 HP.out.1 HP.out.2.1 HP.out.2.2 k13 o13)
               clear k13 o13))
          first
            | refine ws_e ?_
            | (dsimp only [segQ]
               refine ⟨fun h => absurd h (by decide), ws_e ?_⟩)
          go_wp2_with fail
          go_roundw
          case rel =>
            have h1 := HQ.out
            rw [HF.out, exLoop, HSt.out.1] at h1
            simp only [← HE.out] at h1
            rw [HY.out] at h1
            exact ⟨i + 1, f - 1, l', ns ++ [row], acs ++ [y], _, _, some adl, cl', _, _, _, _, by go_num, rfl, HC13.out, HL'.out.1, HL'.out.2.1, hlm', by omega, by simp [HLs.out.2.2.1], by simp [HLs.out.2.2.2.1], by have := HF.out; have := HLs.out.2.2.2.2; omega, h1⟩
          case measure => simp [intOf]; omega
    · have d2 : decide ((i : Int) < (l.length : Int)) = false := by simp; omega
      have HE := Lib.hid (show R = some ⟨ns, acs⟩ by
        have := HQ.out
        cases f with
        | zero => omega
        | succ f =>
          rw [exLoop, List.getElem?_eq_none (by omega)] at this
          exact this.symm)
      have HT := Lib.hid HES.out.tab
      have hTs : (tcells ⟨cellL, nb, ns, acs⟩ An Aa cn ca).size = 259 := by simp [tcells, vis_len, HCl.out.1]
      obtain ⟨T, hT⟩ : ∃ T, tcells ⟨cellL, nb, ns, acs⟩ An Aa cn ca = T := ⟨_, rfl⟩
      have hT1 : T.all (·.oneCell') = true := by rw [← hT]; exact tcells_one ..
      have hTb : Blk wr gt 73 T := by rw [← hT]; exact HT.out
      rw [hT] at hTs
      have HTT := Lib.hid hT
      clear hT HT
      go_wp2_with (first
        | (with_reducible refine at_oper (.load 73 (.tmp 14)) rfl ?_
           refine wpList_load_blk rfl 73 (.tmp 14) rfl gt rfl 73 T _ hTb Tryz.underlying73 rfl (by rw [hTs]; exact size73) ?_)
        | (with_reducible refine at_oper (.store 73 (.tmp 12) (.tmp 99)) rfl ?_
           refine wpList_store_blk rfl 73 (.tmp 12) (.tmp 99) rfl rfl gr T Tryz.zeroCells73 73 rfl rfl HES.out.res (by rw [hTs]; exact size73) (by rw [hTs]; exact Tryz.zeroCells73_size) hT1 ?_
           intro w13 k13 o13
           have K13 := Lib.hid k13
           have O13 := Lib.hid o13
           clear k13 o13))
      refine bodyPost_ret (results_ct rfl _ _ _ rfl gr rfl 73 _ K13.out Tryz.underlying73 rfl (by rw [hTs]; exact size73)) rfl ?_
      refine ⟨_, true, rfl, below_only HES.out.below O13.out hord.1, hTs, hT1, ?_⟩
      have h7 : explore cellL bytesL start next accept most 5000 = some ⟨cellL, nb, ns, acs⟩ := by
        unfold explore
        rw [HR.out, HE.out, HNb.out]; rfl
      rw [h7]
      have hgr : gr < base := by omega
      have hgr2 : gr < wr.heap.size := by have := HES.out.bz; omega
      have q := HES.out.ord.1
      refine ⟨rfl, An, Aa, cn, ca, HTT.out.symm, HCl.out.1, by show nb ≤ 1048576; omega, HCl.out.2, ?_, ?_⟩
      · refine ((HES.out.nx.rr ((HES.out.rows.weak (K' := fun k => base ≤ k) fun k _ hk => hk.1.1)) (by omega)).old (w' := w13) fun k hk _ => O13.out.block k (by omega)).weak fun k _ hk => by omega
      · exact ((HES.out.ac.rl (by omega)).old (w' := w13) fun k hk _ => O13.out.block k (by omega)).weak fun k _ hk => by omega
end Go.Proofs.YtjgkdfghjeodeaaGreatDoor
