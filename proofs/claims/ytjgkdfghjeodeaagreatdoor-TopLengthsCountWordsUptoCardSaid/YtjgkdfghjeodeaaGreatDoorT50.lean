/- automaton.Least, automaton.Accepts. -/
import Derived.Test.YtjgkdfghjeodeaaGreatDoorT35
import Derived.Test.YtjgkdfghjeodeaaGreatDoorT47
import Derived.Test.YtjgkdfghjeodeaaGreatDoorT48
import Derived.Test.YtjgkdfghjeodeaaGreatDoorT49
import Derived.Lib.SlBytesConst
import Derived.Test.YtjgkdfghjeodeaaGreatDoorCards
import Derived.Test.YtjgkdfghjeodeaaGreatDoorTie
import Derived.Deep.DeepHandedRow
import Derived.Deep.DeepWitnessRowRef
import Derived.Lib.LaidTab
import Derived.Lib.LaidIn
import Derived.Stop.LaidErr
import Derived.ProofKit
import Derived.SizedLaws
namespace Go.Proofs.YtjgkdfghjeodeaaGreatDoor
open Go.RowKit

set_option maxRecDepth 100000 in
set_option maxHeartbeats 2000000 in
theorem least_D_c (K1 : Nat → Prop) (v1 : Value) (d : Dfa) (w : World) (hd1 : RD w K1 v1 d) (hv : VD d) (hT : Tab w) (hh : 0 < w.heap.size) : Calls Tryz.prog 9 #[v1] w
    fun e w' => ∃ A n c ok, e = .returned (.tuple #[.slice A n c, .bool ok]) ∧ n ≤ 64 ∧ LeastIs d n ok ∧ Below w.heap.size w w' := by
  obtain ⟨cs1, rfl, z1, o1⟩ := hd1.cells
  have HD := Lib.hid (And.intro hd1 (And.intro hv hT))
  clear hd1 hv hT
  go_enter Tryz.func9, Tryz.ntmps9
  go_wp2_with (first
    | (with_reducible refine at_oper (.box 28 (.tmp 0)) rfl ?_
       refine wpList_box_rowG w.heap.size rfl rfl 28 (.tmp 0) rfl cs1 rfl ?_
       intro w1 k1 b1 s1
       have H1 := Lib.hid (And.intro b1 k1)
       clear b1 k1 s1)
    | (with_reducible refine at_oper (.load 28 (.tmp 1)) rfl ?_
       first
       | refine wpList_load_blk rfl 28 (.tmp 1) rfl w.heap.size rfl 28 cs1 _ H2.out.2 Tryz.underlying28 rfl (by rw [z1]; exact size28) ?_
       | refine wpList_load_blk rfl 28 (.tmp 1) rfl w.heap.size rfl 28 cs1 _ H1.out.2 Tryz.underlying28 rfl (by rw [z1]; exact size28) ?_)
    | (go_at_call 18
       refine (valid_c K1 _ d w1 (HD.out.1.below H1.out.1) HD.out.2.1).mono ?_
       rintro e w2 ⟨rfl, hb⟩
       have H2 := Lib.hid (And.intro (H1.out.1.trans (hb.mono H1.out.1.size)) (H1.out.2.old hb))
       clear hb)
    | (go_at_call 23
       refine (tableOf_c K1 _ d w2 (HD.out.1.below H2.out.1) HD.out.2.1 (HD.out.2.2.below hh H2.out.1) (by have := H2.out.1.size; omega)).mono ?_
       rintro e w3 ⟨ct, rfl, hr, hb⟩
       have H3 := Lib.hid (And.intro (hr.weak (K' := TT) fun _ _ _ => trivial) (H2.out.1.trans (hb.mono H2.out.1.size)))
       clear hr hb)
    | (go_at_call 24
       refine (tleast_c d HD.out.2.1 ct w3 H3.out.1).mono ?_
       rintro e w4 ⟨A, n, c, ok, rfl, hn, hl, hb⟩
       have H4 := Lib.hid (And.intro hn (And.intro hl (H3.out.2.trans (hb.mono H3.out.2.size))))
       clear hn hl hb))
  refine bodyPost_ret (results_tmp2 rfl _ _ _) rfl ?_
  exact ⟨A, n, c, ok, rfl, H4.out⟩

def runT (t : Tbl) (l : List Nat) : Nat := l.foldl (tgT t) 0
def acceptsD (d : Dfa) (l : List Nat) : Bool := (tableOf d).acc.getD (runT (tableOf d) l) false
set_option maxRecDepth 100000 in
set_option maxHeartbeats 2000000 in
theorem accepts_c (K1 : Nat → Prop) (v1 : Value) (d : Dfa) (K2 : Nat → Prop) (A : Option Addr) (n c : Nat) (l : List Nat) (w : World) (hd1 : RD w K1 v1 d) (hv : VD d) (hT : Tab w) (hh : 0 < w.heap.size) (hl : l.length = n) (hs : Sl w K2 A (u8s l)) (h256 : ∀ x ∈ l, x < 256) (_hnc : n ≤ c) (hn : n ≤ 1048576) :
    Calls Tryz.prog 14 #[v1, .slice A n c] w fun e w' => e = .returned (.bool (acceptsD d l)) ∧ Below w.heap.size w w' := by
  obtain ⟨cs1, rfl, z1, o1⟩ := hd1.cells
  have HD := Lib.hid (And.intro hd1 (And.intro hv hT))
  have HS := Lib.hid (And.intro hs (And.intro h256 hl))
  obtain ⟨R, hR⟩ : ∃ R, acceptsD d l = R := ⟨_, rfl⟩
  rw [hR]
  have HR := Lib.hid hR
  clear hd1 hv hT hs h256 hl hR
  go_enter Tryz.func14, Tryz.ntmps14
  go_upto_region 4 with (first
    | (with_reducible refine at_oper (.box 28 (.tmp 0)) rfl ?_
       refine wpList_box_rowG w.heap.size rfl rfl 28 (.tmp 0) rfl cs1 rfl ?_
       intro w1 k1 b1 s1
       have H1 := Lib.hid (And.intro b1 k1)
       clear b1 k1 s1)
    | (with_reducible refine at_oper (.load 28 (.tmp 2)) rfl ?_
       first
       | refine wpList_load_blk rfl 28 (.tmp 2) rfl w.heap.size rfl 28 cs1 _ H2.out.2 Tryz.underlying28 rfl (by rw [z1]; exact size28) ?_
       | refine wpList_load_blk rfl 28 (.tmp 2) rfl w.heap.size rfl 28 cs1 _ H1.out.2 Tryz.underlying28 rfl (by rw [z1]; exact size28) ?_)
    | (go_at_call 18
       refine (valid_c K1 _ d w1 (HD.out.1.below H1.out.1) HD.out.2.1).mono ?_
       rintro e w2 ⟨rfl, hb⟩
       have H2 := Lib.hid (And.intro (H1.out.1.trans (hb.mono H1.out.1.size)) (H1.out.2.old hb))
       clear hb)
    | (go_at_call 23
       refine (tableOf_c K1 _ d w2 (HD.out.1.below H2.out.1) HD.out.2.1 (HD.out.2.2.below hh H2.out.1) (by have := H2.out.1.size; omega)).mono ?_
       rintro e w4 ⟨ct, rfl, hr, hb⟩
       have H4 := Lib.hid (And.intro (hr.weak (K' := TT) fun _ _ _ => trivial) (H2.out.1.trans (hb.mono H2.out.1.size)))
       clear hr hb)
    | (with_reducible refine at_oper (.alloc 73) rfl ?_
       refine wpList_alloc_rowG w4.heap.size rfl rfl 73 rfl _ Tryz.zeroValue73 ?_
       intro w7 k7 b7 s7)
    | (with_reducible refine at_oper (.store 73 (.tmp 5) (.tmp 13)) rfl ?_
       refine wpList_store_blk rfl 73 (.tmp 5) (.tmp 13) rfl rfl w4.heap.size ct _ 73 rfl rfl k7 (by rw [H4.out.1.size]; exact size73) (by rw [H4.out.1.size]; exact Tryz.zeroCells73_size) H4.out.1.one ?_
       intro w8 k8 o8
       have hb8 := below_only b7 o8 (Nat.le_refl _)
       have H8 := Lib.hid (show TC w8 w4.heap.size (tableOf d) ∧ Below w.heap.size w w8 from ⟨⟨⟨ct, k8, H4.out.1.below hb8⟩, tableOf_wt HD.out.2.1⟩, H4.out.2.trans (hb8.mono H4.out.2.size)⟩)
       clear k7 b7 s7 k8 o8 hb8))
  generalize w4.heap.size = gt at *
  go_wp2_with fail
  go_loopw [6, 16] (fun s6 s16 wr => ∃ (i s : Nat), i ≤ n ∧ s16 = vi i ∧ s6 = vi s ∧ s < d.nxt.length ∧ (l.drop i).foldl (tgT (tableOf d)) s = runT (tableOf d) l ∧ TC wr gt (tableOf d) ∧ Below w.heap.size w wr) (fun _ s16 _ => n - (intOf s16).toNat)
  case atStart => exact ⟨0, 0, Nat.zero_le _, rfl, rfl, HD.out.2.1.pos, rfl, H8.out.1, H8.out.2⟩
  case round =>
    clear H8
    obtain ⟨i, s, hi, rfl, rfl, hsn, hrun, htc, hB⟩ := hrel
    have HK := Lib.hid (And.intro hsn (And.intro hrun (And.intro htc hB)))
    have hs9 : s < 1048576 := by have := HD.out.2.1.top; omega
    clear hrun htc hB hsn
    by_cases hin : i < n
    · have d1 : decide ((i : Int) < n) = true := by simp; omega
      have hil : i < l.length := by rw [HS.out.2.2]; exact hin
      obtain ⟨ad, rfl, _, hc⟩ := (HS.out.1.old (Old.of_below HK.out.2.2.2)).at_ (k := i) (by rw [u8s_len]; exact hil)
      have hc' : wr.cell? (ad.add i) = some (.int .u8 ((l.getD i 0 : Nat) : Int)) := hc.trans (by simp [u8s, hil])
      have hb256 : l.getD i 0 < 256 := HS.out.2.1 _ (getD_mem' hil)
      have hdr : l.drop i = l.getD i 0 :: l.drop (i + 1) := drop_cons_of (by rw [List.getD_eq_getElem?_getD, List.getElem?_eq_getElem hil]; rfl)
      obtain ⟨b, hb⟩ : ∃ b, l.getD i 0 = b := ⟨_, rfl⟩
      rw [hb] at hc' hb256 hdr
      have HDr := Lib.hid hdr
      clear hc hb hdr hil
      go_upto_region 8 with fail
      clear hc'
      obtain ⟨n', c1, C, c2', cc, v, ax2, ar, nf, h1, h2, hv, hv2, hv9, h3, h4⟩ := HK.out.2.2.1.next (p := s) HK.out.1 hb256
      have HV := Lib.hid (And.intro (show tgT (tableOf d) s b = v from hv) (show v < d.nxt.length from hv2))
      clear hv hv2
      refine wp_region_ws (by kernel_rfl) [true, true, true, true, true, true, true, true, true, true, true, true] 12 (fun W => NF W gt s b n' c1 C c2' cc v ax2 ar) (by decide +kernel) (fun _ _ d _ _ h => by cases d <;> exact h) nf ?_
      clear nf
      iterate 12 (refine ws_r ?_ (fun W hS => ?_) ?_; rotate_left; (focus (obtain ⟨q1, q2, q3, q4⟩ := hS; go_simp; first | done | rfl | rw [if_pos (by omega)])); simp only [Act.put, List.setIfInBounds_toArray, List.set_cons_zero, List.set_cons_succ])
      refine ws_e ?_
      go_wp2_with fail
      go_roundw
      case rel =>
        have hrun := HK.out.2.1
        rw [HDr.out, List.foldl_cons, HV.out.1] at hrun
        exact ⟨i + 1, v, by omega, by go_num, rfl, HV.out.2, hrun, HK.out.2.2.1.below (Below.refl _ _).drew, HK.out.2.2.2.drew⟩
      case measure => simp [intOf]; omega
    · have d1 : decide ((i : Int) < n) = false := by simp; omega
      have hrun := HK.out.2.1
      rw [List.drop_of_length_le (by rw [HS.out.2.2]; omega), List.foldl_nil] at hrun
      obtain ⟨na, ca1, x, ax, nf, h1, hx, hna⟩ := HK.out.2.2.1.acc (p := s) HK.out.1
      obtain ⟨n1, n2⟩ := nf
      have HX := Lib.hid (show x = R by
        rw [← HR.out, ← hx, hrun]; rfl)
      clear hrun hx
      go_wp2_with fail
      go_ret
      exact ⟨(show Ending.returned (.bool x) = Ending.returned (.bool R) by rw [HX.out]), HK.out.2.2.2⟩
end Go.Proofs.YtjgkdfghjeodeaaGreatDoor
namespace Go.Proofs.YtjgkdfghjeodeaaGreatDoor
open Go.RowKit

theorem size29 : (Tryz.prog.info? 29).map (·.size) = some 1 := by kernel_rfl
theorem catch_idle (p q r : Addr) (w : World) :
    CallsD Tryz.prog 27 #[.pointer (some p), .pointer (some q), .pointer (some r)] .returning w fun e u' w' => e = .returned (.tuple #[]) ∧ u' = .returning ∧ w' = w := by
  refine callsD_of_wpS Tryz.func27 rfl fun c₀ cs hu => ?_
  apply wpS_seq
  apply wpS_region
  simp [wpOpsS, go_sem, recoverD, hu, Tryz.ntmps27, Exit.thenS]
  apply wpS_seq
  apply wpS_region
  simp [wpOpsS, go_sem, recoverD, hu, Exit.thenS]
  refine wpS_cond (t := false) (by simp [Act.eval, Array.replicate]) ?_
  simp only [Bool.false_eq_true, if_false]
  refine wpS_of_wp (wp_skip ?_)
  cases c₀
  simp_all [bodyPostS, results, Tryz.results27]
theorem built82 (s : ByteArray) : Tryz.prog.built 82 [(0, .string s)] = some #[.string s, vi 0, .slice none 0 0] := by kernel_rfl
set_option maxRecDepth 100000 in
set_option maxHeartbeats 4000000 in
theorem parse_c (s : ByteArray) (hs : TXT s) (w : World) : Calls Tryz.prog 12 #[.string s] w fun e w' => ∃ A c, e = .returned (.tuple #[.slice A 4 c, vi 0, vi 0]) ∧ RX w' TT A 4 c nodesAB ∧ Below w.heap.size w w' := by
  have hsz := hs.sz
  have HT := Lib.hid hs
  clear hs
  have hmf : ∀ (fn : Fn) (first cap : Array Value) (w : World), (Instr.makeFunc fn first cap).run Tryz.prog w = .ok (.func fn first cap) w := fun _ _ _ _ => rfl
  have hb82 := built82 s
  go_enter_defers Tryz.func12, Tryz.ntmps12
  go_upto_region 5 with fail
  have hw4 : Below w.heap.size w ((((w.alloc (.cells #[.slice none 0 0] 33)).alloc (.cells #[.int .i64 0] 3)).alloc (.cells #[.int .i64 0] 29)).alloc (.cells #[.string s, .int .i64 0, .slice none 0 0] 82)) ∧
      Blk ((((w.alloc (.cells #[.slice none 0 0] 33)).alloc (.cells #[.int .i64 0] 3)).alloc (.cells #[.int .i64 0] 29)).alloc (.cells #[.string s, .int .i64 0, .slice none 0 0] 82)) w.heap.size 33 #[.slice none 0 0] ∧
      Blk ((((w.alloc (.cells #[.slice none 0 0] 33)).alloc (.cells #[.int .i64 0] 3)).alloc (.cells #[.int .i64 0] 29)).alloc (.cells #[.string s, .int .i64 0, .slice none 0 0] 82)) (w.heap.size + 1) 3 #[.int .i64 0] ∧
      Blk ((((w.alloc (.cells #[.slice none 0 0] 33)).alloc (.cells #[.int .i64 0] 3)).alloc (.cells #[.int .i64 0] 29)).alloc (.cells #[.string s, .int .i64 0, .slice none 0 0] 82)) (w.heap.size + 1 + 1) 29 #[.int .i64 0] ∧
      PST s ((((w.alloc (.cells #[.slice none 0 0] 33)).alloc (.cells #[.int .i64 0] 3)).alloc (.cells #[.int .i64 0] 29)).alloc (.cells #[.string s, .int .i64 0, .slice none 0 0] 82)) (w.heap.size + 1 + 1 + 1) 0 none 0 0 [] :=
    ⟨((((Below.refl _ _).alloc (Nat.le_refl _) _).alloc (by simp) _).alloc (by simp; omega) _).alloc (by simp; omega) _, (((Blk.new w 33 _).alloc _).alloc _).alloc _, ((blk_at (by simp) 3 _).1.alloc _).alloc _, (blk_at (by simp) 29 _).1.alloc _, ⟨(blk_at (by simp) 82 _).1, OwnS.nil_ _ _ _ _⟩⟩
  have H4 := Lib.hid hw4
  clear hw4
  generalize ((((w.alloc (.cells #[.slice none 0 0] 33)).alloc (.cells #[.int .i64 0] 3)).alloc (.cells #[.int .i64 0] 29)).alloc (.cells #[.string s, .int .i64 0, .slice none 0 0] 82)) = w4 at *
  go_upto_region 6 with (first
    | (go_at_call 28
       refine (alternatives_c s HT.out (w.heap.size + 1 + 1 + 1) none 0 w4 H4.out.2.2.2.2).mono ?_
       rintro e w5 ⟨A, c, rfl, hp5, hb5⟩
       have H5 := Lib.hid (show Below w.heap.size w w5 ∧ Blk w5 w.heap.size 33 #[.slice none 0 0] ∧ Blk w5 (w.heap.size + 1) 3 #[.int .i64 0] ∧ Blk w5 (w.heap.size + 1 + 1) 29 #[.int .i64 0] ∧ PST s w5 (w.heap.size + 1 + 1 + 1) 3 A 4 c nodesAB from
         ⟨H4.out.1.trans (hb5.mono (by omega)), H4.out.2.1.below hb5 (by omega), H4.out.2.2.1.below hb5 (by omega), H4.out.2.2.2.1.below hb5 (by omega), hp5⟩)
       clear hp5 hb5))
  clear H4
  have f1 : w5.cell? ⟨w.heap.size + 1 + 1 + 1, 1, none⟩ = some (vi 3) := H5.out.2.2.2.2.blk.cell 1
  have f2 : w5.cell? ⟨w.heap.size + 1 + 1 + 1, 2, none⟩ = some (.slice A 4 c) := H5.out.2.2.2.2.blk.cell 2
  have hc4 := H5.out.2.2.2.2.own.cap.1
  go_wp2_with (first
    | (with_reducible refine at_oper (.store 33 (.tmp 2) (.tmp 35)) rfl ?_
       refine wpList_store_at rfl 33 (.tmp 2) (.tmp 35) rfl rfl w.heap.size 0 (.slice A 4 c) _ 33 rfl rfl H5.out.2.1 (by simp) size33 rfl ?_
       intro w6 k6 o6
       have H6 := Lib.hid (show Below w.heap.size w w6 ∧ Blk w6 w.heap.size 33 #[.slice A 4 c] ∧ Blk w6 (w.heap.size + 1) 3 #[.int .i64 0] ∧ Blk w6 (w.heap.size + 1 + 1) 29 #[.int .i64 0] ∧ OwnS w6 (w.heap.size + 1 + 1 + 1 + 1) 58 9 A 4 c (ndl nodesAB) from
         ⟨below_only H5.out.1 o6 (Nat.le_refl _), k6, H5.out.2.2.1.only o6 (by omega), H5.out.2.2.2.1.only o6 (by omega), H5.out.2.2.2.2.own.only o6 (fun e => by have := (H5.out.2.2.2.2.own.lt _ e).1; omega)⟩)
       clear k6 o6)
    | (with_reducible refine at_oper (.store 3 (.tmp 3) _) rfl ?_
       refine wpList_store_at rfl 3 (.tmp 3) _ rfl rfl (w.heap.size + 1) 0 (.int .i64 0) _ 3 rfl rfl H6.out.2.2.1 (by simp) size3 rfl ?_
       intro w7 k7 o7
       have H7 := Lib.hid (show Below w.heap.size w w7 ∧ Blk w7 w.heap.size 33 #[.slice A 4 c] ∧ Blk w7 (w.heap.size + 1) 3 #[.int .i64 0] ∧ Blk w7 (w.heap.size + 1 + 1) 29 #[.int .i64 0] ∧ OwnS w7 (w.heap.size + 1 + 1 + 1 + 1) 58 9 A 4 c (ndl nodesAB) from
         ⟨below_only H6.out.1 o7 (by omega), H6.out.2.1.only o7 (by omega), k7, H6.out.2.2.2.1.only o7 (by omega), H6.out.2.2.2.2.only o7 (fun e => by have := (H6.out.2.2.2.2.lt _ e).1; omega)⟩)
       clear k7 o7)
    | (with_reducible refine at_oper (.store 29 (.tmp 4) _) rfl ?_
       refine wpList_store_at rfl 29 (.tmp 4) _ rfl rfl (w.heap.size + 1 + 1) 0 (.int .i64 0) _ 29 rfl rfl H7.out.2.2.2.1 (by simp) size29 rfl ?_
       intro w8 k8 o8
       have H8 := Lib.hid (show Below w.heap.size w w8 ∧ Blk w8 w.heap.size 33 #[.slice A 4 c] ∧ Blk w8 (w.heap.size + 1) 3 #[.int .i64 0] ∧ Blk w8 (w.heap.size + 1 + 1) 29 #[.int .i64 0] ∧ OwnS w8 (w.heap.size + 1 + 1 + 1 + 1) 58 9 A 4 c (ndl nodesAB) from
         ⟨below_only H7.out.1 o8 (by omega), H7.out.2.1.only o8 (by omega), H7.out.2.2.1.only o8 (by omega), k8, H7.out.2.2.2.2.only o8 (fun e => by have := (H7.out.2.2.2.2.lt _ e).1; omega)⟩)
       clear k8 o8))
  refine leaves_cons (f := 27) (args := #[.pointer (some ⟨w.heap.size, 0, none⟩), .pointer (some ⟨w.heap.size + 1, 0, none⟩), .pointer (some ⟨w.heap.size + 1 + 1, 0, none⟩)]) (by simp) (by simp [go_sem]) ?_
  refine (catch_idle _ _ _ _).mono ?_
  rintro e u' w'' ⟨rfl, rfl, rfl⟩
  have c0 : w''.cell? ⟨w.heap.size, 0, none⟩ = some (.slice A 4 c) := H8.out.2.1.cell 0
  have c1 : w''.cell? ⟨w.heap.size + 1, 0, none⟩ = some (.int .i64 0) := H8.out.2.2.1.cell 0
  have c2 : w''.cell? ⟨w.heap.size + 1 + 1, 0, none⟩ = some (.int .i64 0) := H8.out.2.2.2.1.cell 0
  simp [Leaves, settle, results, Tryz.results12, go_sem, c0, c1, c2]
  exact ⟨A, c, ⟨rfl, rfl⟩, (H8.out.2.2.2.2.rx (by decide)).weak fun _ _ _ => trivial, H8.out.1⟩
theorem nodesAB_good : GoodX nodesAB :=
  GoodX.binary (GoodX.leaf 3 (2 ^ 97) (.inr (.inr rfl)) (fun h => absurd rfl h) (by decide +kernel)) (GoodX.unary (GoodX.leaf 3 (2 ^ 98) (.inr (.inr rfl)) (fun h => absurd rfl h) (by decide +kernel)) 8 0 none (.inr ⟨rfl, by decide, fun m h => by cases h⟩)) 4 (.inl rfl)
end Go.Proofs.YtjgkdfghjeodeaaGreatDoor
namespace Go.Proofs.YtjgkdfghjeodeaaGreatDoor
open Go.RowKit

def dAB : Dfa := ⟨[115792089237316195423570985008687907853269984665165195064371997982351865937919, 158456325028528675187087900672, 316912650057057350374175801344], [[1, 2, 1], [1, 1, 1], [1, 1, 2]], [false, false, true]⟩
set_option maxRecDepth 10000 in
theorem ab_build : buildD nodesAB = (dAB, 0) := by decide +kernel
set_option maxRecDepth 10000 in
theorem ab_count : countD dAB 3 = 1 := by decide +kernel
set_option maxRecDepth 10000 in
theorem ab_len0 : lenF dAB 0 = false := by decide +kernel
set_option maxRecDepth 10000 in
theorem ab_len5 : lenF dAB 5 = true := by decide +kernel
set_option maxRecDepth 10000 in
theorem ab_acc1 : acceptsD dAB [97, 98, 98] = true := by decide +kernel
set_option maxRecDepth 10000 in
theorem ab_acc2 : acceptsD dAB [98, 97] = false := by decide +kernel
set_option maxRecDepth 10000 in
theorem ab_set : setAt (folD dAB) 1 = setAt (folD dAB) 2 := by decide +kernel
set_option maxRecDepth 10000 in
theorem ab_len1 : lenF dAB 1 = true := by decide +kernel
theorem ab_r1 : (List.range 1).map (lenF dAB) = [false] := by simp [List.range_succ, ab_len0]
theorem ab_r2 : (List.range 2).map (lenF dAB) = [false, true] := by simp [List.range_succ, ab_len0, ab_len1]
theorem ab_01 : (canonL ((List.range 1).map (lenF dAB)) 0 1).isSome = true := by rw [ab_r1]; decide
theorem ab_02 : (canonL ((List.range 2).map (lenF dAB)) 0 2).isSome = true := by rw [ab_r2]; decide
theorem ab_11 : (canonL ((List.range 2).map (lenF dAB)) 1 1).isSome = true := by rw [ab_r2]; decide
theorem ab_vd : VD dAB := by
  have h := buildD_vd nodesAB_good.node nodesAB_good.pos (by rw [ab_build])
  rwa [ab_build] at h
/-- the lengths of ab*, however they are found -/
theorem ab_canon {h p : Nat} (hp : 0 < p) (hper : setAt (folD dAB) (h + p) = setAt (folD dAB) h) (hne : ∀ i j, i < j → j < h + p → setAt (folD dAB) i ≠ setAt (folD dAB) j) :
    ∃ l, canonL ((List.range (h + p)).map (lenF dAB)) h p = some l ∧ memberL l 0 = false ∧ memberL l 5 = true := by
  have h2 : h + p ≤ 2 := Nat.le_of_not_lt fun hlt => hne 1 2 (by omega) hlt ab_set
  have hs : (canonL ((List.range (h + p)).map (lenF dAB)) h p).isSome = true := by
    rcases (show (h = 0 ∧ p = 1) ∨ (h = 0 ∧ p = 2) ∨ (h = 1 ∧ p = 1) by omega) with ⟨rfl, rfl⟩ | ⟨rfl, rfl⟩ | ⟨rfl, rfl⟩
    · exact ab_01
    · exact ab_02
    · exact ab_11
  obtain ⟨l, hl⟩ := Option.isSome_iff_exists.1 hs
  have hc := canon_spec hp (fun n hn => lenF_per hper n hn) hl
  exact ⟨l, hl, by rw [hc.2.2.1, ab_len0], by rw [hc.2.2.1, ab_len5]⟩
end Go.Proofs.YtjgkdfghjeodeaaGreatDoor
namespace Go.Proofs.YtjgkdfghjeodeaaGreatDoor
open Go.RowKit

theorem parseAB_c (w : World) : Calls Tryz.prog 12 #[.string ⟨#[97, 98, 42]⟩] w fun e w' => ∃ A c, e = .returned (.tuple #[.slice A 4 c, vi 0, vi 0]) ∧ RX w' TT A 4 c nodesAB ∧ Below w.heap.size w w' :=
  parse_c _ ⟨rfl, fun _ => rfl, fun _ => rfl, fun _ => rfl⟩ w
theorem buildAB_c (A : Option Addr) (c : Nat) (w : World) (hx : RX w TT A 4 c nodesAB) (hT : Tab w) (hh : 0 < w.heap.size) : Calls Tryz.prog 5 #[.slice A 4 c] w fun e w' => ∃ cs, e = .returned (.tuple #[.agg cs, vi 0]) ∧ cs.size = 3 ∧ cs.all (·.oneCell') = true ∧ RD w' TT (.agg cs) dAB ∧ Below w.heap.size w w' := by
  refine (build_c TT A 4 c nodesAB w hx nodesAB_good (by decide) hT hh).mono ?_
  rintro e w' ⟨v, rfl, hd, hb⟩
  rw [ab_build] at hd
  obtain ⟨cs, rfl, h1, h2⟩ := hd.cells
  exact ⟨cs, by rw [ab_build], h1, h2, hd.weak fun _ _ _ => trivial, hb⟩
theorem RG.cells {w : World} {K : Nat → Prop} {v : Value} {l : List Bool × List Bool} (h : RG w K v l) : ∃ cs, v = .agg cs ∧ cs.size = 2 ∧ cs.all (·.oneCell') = true := by
  obtain ⟨A1, c1, A2, c2, e, _, _⟩ := h.ex
  exact ⟨_, e, rfl, by simp [Value.oneCell']⟩
theorem lofAB_c (v : Value) (w : World) (hd : RD w TT v dAB) (hT : Tab w) (hh : 0 < w.heap.size) : Calls Tryz.prog 7 #[v] w fun e w' => ∃ cs l, e = .returned (.tuple #[.agg cs, vi 0]) ∧ cs.size = 2 ∧ cs.all (·.oneCell') = true ∧ RG w' TT (.agg cs) l ∧ memberL l 0 = false ∧ memberL l 5 = true ∧ Below w.heap.size w w' := by
  refine (lof_c TT v dAB w hd ab_vd hT hh).mono ?_
  rintro e w' ⟨h, p, u, hp, hper, hne, hC, hb⟩
  obtain ⟨l, hl, m0, m5⟩ := ab_canon hp hper hne
  rw [hl] at hC
  obtain ⟨rfl, hg⟩ := hC
  obtain ⟨cs, rfl, h1, h2⟩ := hg.cells
  exact ⟨cs, l, rfl, h1, h2, hg.weak fun _ _ _ => trivial, m0, m5, hb⟩
theorem countAB_c (v : Value) (w : World) (hd : RD w TT v dAB) : Calls Tryz.prog 8 #[v, vi 3] w fun e w' => e = .returned (.tuple #[vi 1, vi 0]) ∧ Below w.heap.size w w' := by
  have h := count_c TT v dAB 3 w hd ab_vd (by decide)
  rwa [ab_count] at h
theorem acc1AB_c (v : Value) (K : Nat → Prop) (A : Option Addr) (w : World) (hd : RD w TT v dAB) (hT : Tab w) (hh : 0 < w.heap.size) (hs : Sl w K A (u8s [97, 98, 98])) : Calls Tryz.prog 14 #[v, .slice A 3 3] w fun e w' => e = .returned (.bool true) ∧ Below w.heap.size w w' := by
  have h := accepts_c TT v dAB K A 3 3 [97, 98, 98] w hd ab_vd hT hh rfl hs (by simp) (by decide) (by decide)
  rwa [ab_acc1] at h
theorem acc2AB_c (v : Value) (K : Nat → Prop) (A : Option Addr) (w : World) (hd : RD w TT v dAB) (hT : Tab w) (hh : 0 < w.heap.size) (hs : Sl w K A (u8s [98, 97])) : Calls Tryz.prog 14 #[v, .slice A 2 2] w fun e w' => e = .returned (.bool false) ∧ Below w.heap.size w w' := by
  have h := accepts_c TT v dAB K A 2 2 [98, 97] w hd ab_vd hT hh rfl hs (by simp) (by decide) (by decide)
  rwa [ab_acc2] at h
theorem hasAB_c (b : Bool) (n : Nat) (v : Value) (l : List Bool × List Bool) (w : World) (hl : RG w TT v l) (hn : n ≤ 5) (hm : memberL l n = b) : Calls Tryz.prog 11 #[v, vi n] w fun e w' => e = .returned (.bool b) ∧ Below w.heap.size w w' := by
  have h := lhas_c TT v l n (by omega) w hl
  rwa [hm] at h
theorem sl_lit (w : World) (l : List Nat) (r : Nat × Nat) : Sl (w.alloc (.cells (u8s l).toArray 5 r)) TT (some ⟨w.heap.size, 0, none⟩) (u8s l) := fun j u hj => by
  refine ⟨_, rfl, trivial, ?_⟩
  have h1 : (w.alloc (.cells (u8s l).toArray 5 r)).heap[w.heap.size]? = some (.cells (u8s l).toArray 5 r) := by
    show (w.heap.push _)[w.heap.size]? = _
    simp
  have h2 : ∀ i, (w.alloc (.cells (u8s l).toArray 5 r)).cell? ⟨w.heap.size, i, none⟩ = (u8s l).toArray[i]? := fun i => by
    unfold World.cell?
    simp only [h1]
    rfl
  have h3 : (u8s l).toArray[j]? = some u := by simpa using hj
  rcases j with _ | j
  · exact (h2 0).trans h3
  · rw [show (⟨w.heap.size, 0, none⟩ : Addr).add (j + 1) = ⟨w.heap.size, j + 1, none⟩ by simp [Addr.add]]
    exact (h2 (j + 1)).trans h3
theorem do13AB_c (A : Option Addr) (w : World) (hs : Sl w TT A (u8s [97, 98, 67])) : Calls Tryz.prog 13 #[.agg opC, .slice A 3 3] w
    fun e w' => ∃ A' c', e = .returned (.tuple #[.slice A' 3 c', .bool true]) ∧ Sl w' TT A' (u8s [65, 66, 67]) ∧ Below w.heap.size w w' := by
  refine (do13_c A 3 3 [97, 98, 67] w rfl (by decide) (by decide) (by simp) hs).mono ?_
  rintro e w' ⟨A', c', rfl, _, h2, h3⟩
  exact ⟨A', c', rfl, h2, h3⟩
/-- what the last condition reads -/
structure SAN (w W : World) (cs cl : Array Value) (g h : Nat) (l : List Bool × List Bool) (A : Option Addr) : Prop where
  d : RD W TT (.agg cs) dAB
  b : Below w.heap.size w W
  k : Blk W g 28 cs
  r : RG W TT (.agg cl) l
  q : Blk W h 36 cl
  s : Sl W TT A (u8s [65, 66, 67])
theorem SAN.below {w W W' : World} {cs cl : Array Value} {g h : Nat} {l : List Bool × List Bool} {A : Option Addr} (H : SAN w W cs cl g h l A) (hb : Below W.heap.size W W') : SAN w W' cs cl g h l A :=
  ⟨H.d.below hb, H.b.trans (hb.mono H.b.size), H.k.old hb, H.r.below hb, H.q.old hb, H.s.old (Old.of_below hb)⟩
theorem SAN.lit {w W : World} {cs cl : Array Value} {g h : Nat} {l : List Bool × List Bool} {A : Option Addr} (H : SAN w W cs cl g h l A) (o : Obj) : SAN w (W.alloc o) cs cl g h l A := H.below ((Below.refl _ _).alloc (Nat.le_refl _) o)
theorem strABC : strV [65, 66, 67] = .string ⟨#[65, 66, 67]⟩ := by rfl
theorem built50 : Tryz.prog.built 50 [(0, .int .i64 2)] = some opC := by kernel_rfl
set_option maxRecDepth 100000 in
set_option maxHeartbeats 8000000 in
theorem sanity_c (w : World) (hT : Tab w) (hh : 0 < w.heap.size) : Calls Tryz.prog 4 #[] w fun e w' => e = .returned (.bool true) ∧ Below w.heap.size w w' := by
  have HT := Lib.hid (And.intro hT hh)
  clear hT
  have hb50 := built50
  have hcv := fun (w : World) (C : Array Value) (n c : Nat) => Go.Lib.run_convert_bytes_const w 22 5 C n c Tryz.underlying22 Tryz.underlying5
  go_enter Tryz.func4, Tryz.ntmps4
  go_wp2_with (first
    | (go_at_call 12
       refine (parseAB_c w).mono ?_
       rintro e w1 ⟨A, c, rfl, hx, hb⟩
       have H1 := Lib.hid (show RX w1 TT A 4 c nodesAB ∧ Below w.heap.size w w1 from ⟨hx, hb⟩)
       clear hx hb)
    | (go_at_call 5
       refine (buildAB_c A c w1 H1.out.1 (HT.out.1.below HT.out.2 H1.out.2) (by have := H1.out.2.size; omega)).mono ?_
       rintro e w2 ⟨cs, rfl, z, o, hd, hb⟩
       have H2 := Lib.hid (show RD w2 TT (.agg cs) dAB ∧ Below w.heap.size w w2 from ⟨hd, H1.out.2.trans (hb.mono H1.out.2.size)⟩)
       clear hd hb)
    | (with_reducible refine at_oper (.alloc 28) rfl ?_
       refine wpList_alloc_rowG w2.heap.size rfl rfl 28 rfl _ zero28 ?_
       intro w3 k3 b3 s3)
    | (with_reducible refine at_oper (.store 28 (.tmp 4) (.tmp 20)) rfl ?_
       refine wpList_store_blk rfl 28 (.tmp 4) (.tmp 20) rfl rfl w2.heap.size cs #[.slice none 0 0, .slice none 0 0, .slice none 0 0] 28 rfl rfl k3 (by rw [z]; exact size28) (by rw [z]; rfl) o ?_
       intro w4 k4 o4
       have b4 := below_only b3 o4 (Nat.le_refl _)
       have H4 := Lib.hid (show RD w4 TT (.agg cs) dAB ∧ Below w.heap.size w w4 ∧ Blk w4 w2.heap.size 28 cs from ⟨H2.out.1.below b4, H2.out.2.trans (b4.mono H2.out.2.size), k4⟩)
       clear b3 s3 k3 k4 o4 b4)
    | (go_at_call 7
       refine (lofAB_c (.agg cs) w4 H4.out.1 (HT.out.1.below HT.out.2 H4.out.2.1) (by have := H4.out.2.1.size; omega)).mono ?_
       rintro e w5 ⟨cl, l, rfl, zl, ol, hg, m0, m5, hb⟩
       have H5 := Lib.hid (show RD w5 TT (.agg cs) dAB ∧ Below w.heap.size w w5 ∧ Blk w5 w2.heap.size 28 cs ∧ RG w5 TT (.agg cl) l from ⟨H4.out.1.below hb, H4.out.2.1.trans (hb.mono H4.out.2.1.size), H4.out.2.2.old hb, hg⟩)
       clear hg hb)
    | (with_reducible refine at_oper (.alloc 36) rfl ?_
       refine wpList_alloc_rowG w5.heap.size rfl rfl 36 rfl _ zero36 ?_
       intro w6 k6 b6 s6)
    | (with_reducible refine at_oper (.store 36 (.tmp 6) (.tmp 25)) rfl ?_
       refine wpList_store_blk rfl 36 (.tmp 6) (.tmp 25) rfl rfl w5.heap.size cl #[.slice none 0 0, .slice none 0 0] 36 rfl rfl k6 (by rw [zl]; exact size36) (by rw [zl]; rfl) ol ?_
       intro w7 k7 o7
       have b7 := below_only b6 o7 (Nat.le_refl _)
       have H7 := Lib.hid (show RD w7 TT (.agg cs) dAB ∧ Below w.heap.size w w7 ∧ Blk w7 w2.heap.size 28 cs ∧ RG w7 TT (.agg cl) l ∧ Blk w7 w5.heap.size 36 cl from ⟨H5.out.1.below b7, H5.out.2.1.trans (b7.mono H5.out.2.1.size), H5.out.2.2.1.old b7, H5.out.2.2.2.below b7, k7⟩)
       clear b6 s6 k6 k7 o7 b7)
    | (with_reducible refine at_oper (.load 28 (.tmp 4)) rfl ?_
       first
       | refine wpList_load_blk rfl 28 (.tmp 4) rfl w2.heap.size rfl 28 cs _ HS.out.k Tryz.underlying28 rfl (by rw [z]; exact size28) ?_
       | refine wpList_load_blk rfl 28 (.tmp 4) rfl w2.heap.size rfl 28 cs _ H7.out.2.2.1 Tryz.underlying28 rfl (by rw [z]; exact size28) ?_
       | refine wpList_load_blk rfl 28 (.tmp 4) rfl w2.heap.size rfl 28 cs _ H4.out.2.2 Tryz.underlying28 rfl (by rw [z]; exact size28) ?_)
    | (go_at_call 8
       refine (countAB_c (.agg cs) w7 H7.out.1).mono ?_
       rintro e w8 ⟨rfl, hb⟩
       have H8 := Lib.hid (show RD w8 TT (.agg cs) dAB ∧ Below w.heap.size w w8 ∧ Blk w8 w2.heap.size 28 cs ∧ RG w8 TT (.agg cl) l ∧ Blk w8 w5.heap.size 36 cl from ⟨H7.out.1.below hb, H7.out.2.1.trans (hb.mono H7.out.2.1.size), H7.out.2.2.1.old hb, H7.out.2.2.2.1.below hb, H7.out.2.2.2.2.old hb⟩)
       clear hb)
    | (go_at_call 13
       refine (do13AB_c (some ⟨w8.heap.size, 0, none⟩) _ (sl_lit w8 [97, 98, 67] (3, 4))).mono ?_
       rintro e w9 ⟨A9, c9, rfl, hs, hb⟩
       have b9 : Below w8.heap.size w8 w9 := ((Below.refl _ _).alloc (Nat.le_refl _) _).trans (hb.mono (by rw [World.size_alloc]; omega))
       have HS := Lib.hid (show SAN w w9 cs cl w2.heap.size w5.heap.size l A9 from ⟨H8.out.1.below b9, H8.out.2.1.trans (b9.mono H8.out.2.1.size), H8.out.2.2.1.old b9, H8.out.2.2.2.1.below b9, H8.out.2.2.2.2.old b9, hs⟩)
       clear hs hb b9)
    | (with_reducible refine at_oper (.load 36 (.tmp 6)) rfl ?_
       refine wpList_load_blk rfl 36 (.tmp 6) rfl w5.heap.size rfl 36 cl _ HS.out.q Tryz.underlying36 rfl (by rw [zl]; exact size36) ?_)
    | (go_at_call 11
       first
       | refine (hasAB_c false 0 (.agg cl) l w9 HS.out.r (by decide) m0).mono ?_
         rintro e w10 ⟨rfl, hb⟩
         replace HS := Lib.hid (HS.out.below hb)
         clear hb
       | refine (hasAB_c true 5 (.agg cl) l w10 HS.out.r (by decide) m5).mono ?_
         rintro e w11 ⟨rfl, hb⟩
         replace HS := Lib.hid (HS.out.below hb)
         clear hb)
    | (go_at_call 14
       first
       | refine (acc1AB_c (.agg cs) TT (some ⟨w11.heap.size, 0, none⟩) _ (HS.out.lit _).d (HT.out.1.below HT.out.2 (HS.out.lit _).b) (by have := (HS.out.lit (.cells (u8s [97, 98, 98]).toArray 5 (3, 4))).b.size; omega) (sl_lit w11 [97, 98, 98] (3, 4))).mono ?_
         rintro e w12 ⟨rfl, hb⟩
         replace HS := Lib.hid ((HS.out.lit _).below hb)
         clear hb
       | refine (acc2AB_c (.agg cs) TT (some ⟨w12.heap.size, 0, none⟩) _ (HS.out.lit _).d (HT.out.1.below HT.out.2 (HS.out.lit _).b) (by have := (HS.out.lit (.cells (u8s [98, 97]).toArray 5 (2, 3))).b.size; omega) (sl_lit w12 [98, 97] (2, 3))).mono ?_
         rintro e w13 ⟨rfl, hb⟩
         replace HS := Lib.hid ((HS.out.lit _).below hb)
         clear hb)
    | (with_reducible refine at_oper (.convert 22 9 (.tmp 83)) rfl ?_
       refine wpList_toString rfl (.tmp 83) rfl rfl rfl HS.out.s ?_
       rw [strABC])
    | (with_reducible refine wpList_unguard ?_ ?_ ?_
       rfl
       rfl))
  go_ret
  exact ⟨rfl, HS.out.b⟩
end Go.Proofs.YtjgkdfghjeodeaaGreatDoor
namespace Go.Proofs.YtjgkdfghjeodeaaGreatDoor
open Go.ChangeShapes Go.WideShapes Go.ChangeAt Go.RowKit Go.Lib

theorem Tryz.own : ownKnob Tryz.prog.godebug = none := by kernel_rfl
theorem Tryz.laidOut : laidOutB Tryz.prog = true := by kernel_rfl
theorem Tryz.cells5 : Tryz.prog.cellsOf 5 = 1 := by kernel_rfl
theorem gTab : Tryz.prog.globalNamed "math/bits.deBruijn64tab" = some 0 := by kernel_rfl
theorem gTabType : (Tryz.prog.globals[0]?).map (·.type) = some 103 := by kernel_rfl
theorem cells103 : Tryz.prog.cellsOf 103 = 64 := by kernel_rfl
/-- what the row's list gives -/
theorem tab_of_laid {W : World} (h : laidMetH Tryz.prog Rows.topLengthsCountWordsUptoRow.laid W) : Tab W := by
  have h1 : laidMet Tryz.prog Rows.topLengthsCountWordsUptoRow.laid W := by
    rw [MakeChecks.laidMetH_plain _ _ _ (by kernel_rfl)] at h
    exact h
  have h2 := laidMet.tail (x := ("math/bits.deBruijn32tab", Rows.laid_math_bits_deBruijn32tab)) (r := [("math/bits.deBruijn64tab", Rows.laid_math_bits_deBruijn64tab), ("internal/strconv.uint64pow10", Rows.laid_internal_strconv_uint64pow10), ("strconv.ErrRange", Rows.laid_strconv_ErrRange), ("strconv.ErrSyntax", Rows.laid_strconv_ErrSyntax)]) h1
  have h3 : Lib.TabIs Tryz.prog W "math/bits.deBruijn64tab" .u8 (Lib.deBruijn64tab.map fun (x : Nat) => (x : Int)) :=
    Lib.tabIs_of_head (rest := [("internal/strconv.uint64pow10", Rows.laid_internal_strconv_uint64pow10), ("strconv.ErrRange", Rows.laid_strconv_ErrRange), ("strconv.ErrSyntax", Rows.laid_strconv_ErrSyntax)]) gTab gTabType Tryz.underlying103 Tryz.underlying5 Tryz.cells5 cells103 h2
  intro j hj
  have h4 := h3.cell gTab j (by simpa using hj)
  rw [h4]
  have : (Lib.deBruijn64tab.map fun (x : Nat) => (x : Int)).getD j 0 = ((Lib.deBruijn64tab.getD j 0 : Nat) : Int) := by
    simp [List.getD, hj]
  rw [this]
/-- a world for the witness -/
noncomputable def laidWorld (os : Os) : World :=
  let N := (World.settled Tryz.prog os).heap.size
  let w0 := World.holding Tryz.prog os ⟨#[.cells #[.string ⟨#[118, 97, 108, 117, 101, 32, 111, 117, 116, 32, 111, 102, 32, 114, 97, 110, 103, 101]⟩] 223, .cells #[.string ⟨#[105, 110, 118, 97, 108, 105, 100, 32, 115, 121, 110, 116, 97, 120]⟩] 223], #[], []⟩
  let put (h : Array Obj) (g : Nat) (cs : Array Value) : Array Obj := h.modify g fun
    | .cells _ t frozen => .cells cs t frozen
    | o => o
  let h0 := put (put w0.heap 3 #[.iface 221 (.pointer (some ⟨N, 0, none⟩))]) 2 #[.iface 221 (.pointer (some ⟨N + 1, 0, none⟩))]
  let h1 := put h0 0 (Lib.deBruijn64tab.map fun (z : Nat) => Value.int .u8 z).toArray
  let h2 := put h1 5 (Lib.deBruijn32tab.map fun (z : Nat) => Value.int .u8 z).toArray
  let h3 := put h2 4 ((List.range 20).map fun i => Value.int .u64 ((10 ^ i : Nat) : Int)).toArray
  { w0 with heap := h3 }
noncomputable abbrev N0 : Nat := (World.settled Tryz.prog default).heap.size
theorem laid_met (os : Os) (args : Array Value) : laidMet Tryz.prog Rows.topLengthsCountWordsUptoRow.laid ((laidWorld os).forCall (fun _ _ => 0) ⟨#[], args, []⟩).memory :=
  (LaidIn.of_run (l := [("math/bits.deBruijn32tab", Rows.laid_math_bits_deBruijn32tab), ("math/bits.deBruijn64tab", Rows.laid_math_bits_deBruijn64tab), ("internal/strconv.uint64pow10", Rows.laid_internal_strconv_uint64pow10), ("strconv.ErrRange", Rows.laid_strconv_ErrRange), ("strconv.ErrSyntax", Rows.laid_strconv_ErrSyntax)]) [0, 2, 3, 4, 5, N0, N0 + 1] 8 (by kernel_rfl) (by kernel_rfl) (by kernel_rfl) (by kernel_rfl)).met
theorem witness_row (os : Os) {H : Type} (enc : TypeId × Value → H) :
    (Rows.OpenSpec.upto Rows.topLengthsCountWordsSpec).preRow enc Tryz.prog Tryz.f3 Rows.topLengthsCountWordsUptoRow.domain false Rows.topLengthsCountWordsUptoRow.laid ((laidWorld os).forCall (fun _ _ => 0) ⟨#[], #[.slice none 0 0, .int .u8 0], []⟩).memory #[.slice none 0 0, .int .u8 0] := by
  have hw : (DataW.whole enc Tryz.prog ((laidWorld os).forCall (fun _ _ => 0) ⟨#[], #[.slice none 0 0, .int .u8 0], []⟩).memory Tryz.f3.params.toList Rows.topLengthsCountWordsSpec.vars false #[.slice none 0 0, .int .u8 0].toList 8).map (fun x => (x.1, x.2.1)) =
      some ([.nil, .lit (.int .u8 0)], []) := by kernel_rfl
  obtain ⟨⟨x1, x2, x3⟩, hx, hx1⟩ := Option.map_eq_some_iff.1 hw
  simp only [Prod.mk.injEq] at hx1
  obtain ⟨rfl, rfl⟩ := hx1
  exact OpenSpec.preRow_of_cond 8 hx (by kernel_rfl) (fun k hk => by cases hk; kernel_rfl) (by kernel_rfl) (laid_met os _)
end Go.Proofs.YtjgkdfghjeodeaaGreatDoor
