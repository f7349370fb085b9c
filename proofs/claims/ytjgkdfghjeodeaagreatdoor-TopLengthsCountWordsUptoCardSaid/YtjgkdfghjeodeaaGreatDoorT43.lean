/- automaton.table.least. -/
import Derived.Test.YtjgkdfghjeodeaaGreatDoorT39
import Derived.Laws.Externs
import Derived.Defers
import Derived.Recover
import Derived.MapKept
namespace Go.Proofs.YtjgkdfghjeodeaaGreatDoor
open Go.RowKit

theorem size5 : (Tryz.prog.info? 5).map (·.size) = some 1 := by kernel_rfl
/-- bytes in memory, as an array -/
def u8a (l : List Nat) : Array Value := (u8s l).toArray
theorem u8a_size (l : List Nat) : (u8a l).size = l.length := by simp [u8a, u8s]
theorem u8a_get {l : List Nat} {i : Nat} (h : i < l.length) : (u8a l)[i]? = some (.int .u8 (l.getD i 0 : Nat)) := by simp [u8a, u8s, h]
theorem u8a_set (l : List Nat) (i x : Nat) : (u8a l).setIfInBounds i (.int .u8 (x : Nat)) = u8a (l.set i x) := by simp [u8a, u8s, List.map_set]
theorem u8a_rep (n : Nat) : (List.replicate n (Value.int .u8 0)).toArray = u8a (List.replicate n 0) := by simp [u8a, u8s]
theorem Own.vi_at {w : World} {base : Nat} {e : TypeId} {A : Option Addr} {n c : Nat} {l : List Nat} (h : Own w base e A n c (vis l)) {i : Nat} (hi : i < l.length) : ∃ ad, A = some ad ∧ w.cell? (ad.add i) = some (vi (l.getD i 0)) := by
  obtain ⟨ad, e, _, h⟩ := (h.sl (K := TT) fun _ _ => trivial).at_ (k := i) (by rw [vis_len]; exact hi)
  exact ⟨ad, e, h.trans (by simp [vis, hi])⟩
/-- what 'least' holds in memory -/
structure LS_ (w wr : World) (cs : Array Value) (n : Nat) (fr : List Int) (bl l : List Nat) (Al : Option Addr) (cl : Nat) : Prop where
  below : Below w.heap.size w wr
  box : Blk wr w.heap.size 73 cs
  fb : Blk wr (w.heap.size + 1) 3 (zia fr)
  bb : Blk wr (w.heap.size + 1 + 1) 5 (u8a bl)
  lst : Own wr (w.heap.size + 1 + 1 + 1) 3 Al l.length cl (vis l)
  bn : bl.length = n
section
variable {w wr w' : World} {cs : Array Value} {n : Nat} {fr : List Int} {bl l : List Nat} {Al : Option Addr} {cl : Nat}
theorem LS_.step (h : LS_ w wr cs n fr bl l Al cl) (hb : Below wr.heap.size wr w') : LS_ w w' cs n fr bl l Al cl :=
  ⟨h.below.trans (hb.mono h.below.size), h.box.old hb, h.fb.old hb, h.bb.old hb, h.lst.below hb, h.bn⟩
theorem LS_.drew (h : LS_ w wr cs n fr bl l Al cl) : LS_ w wr.drew cs n fr bl l Al cl := h.step (Below.refl _ _).drew
theorem LS_.setf (h : LS_ w wr cs n fr bl l Al cl) {v : Nat} {x : Int} (k : Blk w' (w.heap.size + 1) 3 ((zia fr).setIfInBounds v (.int .i64 x))) (ho : Only (w.heap.size + 1) wr w') : LS_ w w' cs n (fr.set v x) bl l Al cl :=
  ⟨below_only h.below ho (by omega), h.box.only ho (by omega), by rw [zia_set] at k; exact k, h.bb.only ho (by omega), h.lst.only ho (fun e => by have := (h.lst.lt _ e).1; omega), h.bn⟩
theorem LS_.setb (h : LS_ w wr cs n fr bl l Al cl) {v x : Nat} (k : Blk w' (w.heap.size + 1 + 1) 5 ((u8a bl).setIfInBounds v (.int .u8 (x : Nat)))) (ho : Only (w.heap.size + 1 + 1) wr w') : LS_ w w' cs n fr (bl.set v x) l Al cl :=
  ⟨below_only h.below ho (by omega), h.box.only ho (by omega), h.fb.only ho (by omega), by rw [u8a_set] at k; exact k, h.lst.only ho (fun e => by have := (h.lst.lt _ e).1; omega), by rw [List.length_set]; exact h.bn⟩
theorem LS_.push (h : LS_ w wr cs n fr bl l Al cl) {t : TypeId} {x : Nat} {A' : Option Addr} {c' : Nat} (hown : Own w' (w.heap.size + 1 + 1 + 1) 3 A' (l.length + 1) c' (vis l ++ [vi x])) (hgr : (wr.alloc (.cells #[vi x] t)).grownBy w' (obl Al)) : LS_ w w' cs n fr bl (l ++ [x]) A' c' := by
  have hb : ∀ k, obl Al = some k → w.heap.size + 1 + 1 + 1 ≤ k := fun k e => (h.lst.lt _ e).1
  have h1 := h.bb.lt
  refine ⟨below_grown (h.below.alloc h.below.size _) hgr (by rw [World.size_alloc]; omega) (fun k e => by have := hb k e; omega), (h.box.alloc _).grown hgr (fun e => by have := hb _ e; omega), (h.fb.alloc _).grown hgr (fun e => by have := hb _ e; omega), (h.bb.alloc _).grown hgr (fun e => by have := hb _ e; omega), ?_, h.bn⟩
  rw [List.length_append, vis_snoc]
  exact hown
end
theorem neg_set (i n : Nat) (h : i < n) : (List.replicate i (-1 : Int) ++ List.replicate (n - i) 0).set i (-1) = List.replicate (i + 1) (-1) ++ List.replicate (n - (i + 1)) 0 := by
  rw [List.set_append_right _ _ (by simp), List.length_replicate, Nat.sub_self, show n - i = (n - (i + 1)) + 1 by omega, List.replicate_succ, List.set_cons_zero, List.replicate_succ', List.append_assoc]
  rfl
theorem app22s : AppS Tryz.prog 22 5 1 1 := AppS.of (.int .u8 0) (by decide) Tryz.underlying22 info5 rfl
/-- what the search says -/
def LeastIs (d : Dfa) (n : Nat) (ok : Bool) : Prop := if ok then HasLen d n ∧ ∀ k, k < n → ¬ HasLen d k else ∀ k, ¬ HasLen d k

set_option maxRecDepth 100000 in
set_option maxHeartbeats 4000000 in
theorem tleast_c (d : Dfa) (hv : VD d) (cs : Array Value) (w : World) (hR : RT w TT cs (tableOf d)) : Calls Tryz.prog 24 #[.agg cs] w
    fun e w' => ∃ A n c ok, e = .returned (.tuple #[.slice A n c, .bool ok]) ∧ n ≤ 64 ∧ LeastIs d n ok ∧ Below w.heap.size w w' := by
  have hsz := hR.size
  obtain ⟨A2, A3, c2, c3, hcs, hrr, hrl, hcl, hce, hlt⟩ := tab_fields hR
  have hcap := hrr.cap
  obtain ⟨n, hn⟩ : ∃ n, d.nxt.length = n := ⟨_, rfl⟩
  have hn' : (tableOf d).nxt.length = n := hn
  rw [hn'] at hcap
  have hf : cs[257]? = some (.slice A2 n c2) := by rw [hcs, tcells_257 hcl, hn']
  have hn2 : n ≤ 64 := by rw [← hn]; exact hv.top
  have hn1 : 1 ≤ n := by rw [← hn]; exact hv.pos
  have HR := Lib.hid (And.intro hR (And.intro hv hn))
  clear hR hcs hrr hrl hcl hce hlt hv hn hn'
  go_enter Tryz.func24, Tryz.ntmps24
  go_upto_region 1 with (first
    | (with_reducible refine at_oper (.box 73 (.tmp 0)) rfl ?_
       refine wpList_box_rowG w.heap.size rfl rfl 73 (.tmp 0) rfl cs rfl ?_
       intro w1 k1 b1 s1))
  have f1 : w1.cell? ⟨w.heap.size, 257, none⟩ = some (.slice A2 n c2) := (k1.cell 257).trans hf
  go_upto_region 2 with (first
    | (with_reducible refine at_oper (.makeSlice 64 (.tmp 15) (.tmp 15)) rfl ?_
       refine wpList_makeFullG (w.heap.size + 1) s1 rfl (.tmp 15) (.tmp 15) 64 rfl (.int .i64 0) Tryz.underlying64 info3 rfl n rfl rfl (by omega) (by omega) ?_
       intro w2 k2 b2 s2
       have f2 := cell_below (w' := w2) (s1 ▸ b2) f1))
  clear f1
  go_upto_region 3 with (first
    | (with_reducible refine at_oper (.makeSlice 22 (.tmp 19) (.tmp 19)) rfl ?_
       refine wpList_makeFullG (w.heap.size + 1 + 1) s2 rfl (.tmp 19) (.tmp 19) 22 rfl (.int .u8 0) Tryz.underlying22 info5 rfl n rfl rfl (by omega) (by omega) ?_
       intro w3 k3 b3 s3))
  rw [u8a_rep] at k3
  have H3 := Lib.hid (show LS_ w w3 cs n (List.replicate 0 (-1) ++ List.replicate (n - 0) 0) (List.replicate n 0) [] none 0 ∧ w3.heap.size = w.heap.size + 1 + 1 + 1 from
    ⟨⟨(b1.trans (b2.mono (by omega))).trans (b3.mono (by omega)), (k1.old b2).old b3, by
      have h := k2.old b3
      rw [show (List.replicate n (Value.int .i64 0)).toArray = zia (List.replicate n 0) by simp [zia]] at h
      simpa using h, k3, Own.nil_ _ _ _, List.length_replicate⟩, s3⟩)
  clear f2 k1 k2 k3 b1 b2 b3 s1 s2 s3
  go_wp2_with fail
  go_loopw [23] (fun s23 wr => ∃ i : Nat, i ≤ n ∧ s23 = vi i ∧ LS_ w wr cs n (List.replicate i (-1) ++ List.replicate (n - i) 0) (List.replicate n 0) [] none 0 ∧ wr.heap.size = w.heap.size + 1 + 1 + 1) (fun s23 _ => n - (intOf s23).toNat)
  case atStart => exact ⟨0, Nat.zero_le _, rfl, H3.out⟩
  case round =>
    clear H3
    obtain ⟨i, hi, rfl, hL, hz⟩ := hrel
    have HL := Lib.hid (And.intro hL hz)
    clear hL hz
    by_cases hin : i < n
    · have d1 : decide ((i : Int) < n) = true := by simp; omega
      go_wp2_with (first
        | (with_reducible refine at_oper (.store 3 (.tmp 28) _) rfl ?_
           refine wpList_store_at rfl 3 (.tmp 28) _ rfl rfl (w.heap.size + 1) i (.int .i64 (-1)) _ 3 rfl rfl HL.out.1.fb (by rw [zia_size, List.length_append, List.length_replicate, List.length_replicate]; omega) size3 rfl ?_
           intro w4 k4 o4
           have H4 := Lib.hid (And.intro (HL.out.1.setf k4 o4) o4.size)
           clear k4 o4))
      go_roundw
      case rel =>
        have h := H4.out.1
        rw [neg_set i n hin] at h
        exact ⟨i + 1, by omega, by go_num, h, H4.out.2.trans HL.out.2⟩
      case measure => simp [intOf]; omega
    · have d1 : decide ((i : Int) < n) = false := by simp; omega
      have hl := HL.out.1
      have hs := HL.out.2
      rw [show i = n by omega, Nat.sub_self, List.replicate_zero, List.append_nil] at hl
      have HL0 := Lib.hid (And.intro hl hs)
      clear hl hs HL
      go_upto_region 9 with (first
        | (with_reducible refine at_oper (.store 3 (.tmp 31) _) rfl ?_
           refine wpList_store_at rfl 3 (.tmp 31) _ rfl rfl (w.heap.size + 1) 0 (.int .i64 0) _ 3 rfl rfl HL0.out.1.fb (by rw [zia_size, List.length_replicate]; omega) size3 rfl ?_
           intro w4 k4 o4
           have H4 := Lib.hid (And.intro (HL0.out.1.setf k4 o4) (o4.size.trans HL0.out.2))
           clear k4 o4))
      have hb4 : Below w4.heap.size w4 (w4.alloc (.cells #[vi 0] 3)) := (Below.refl _ _).alloc (Nat.le_refl _) _
      have H5 := Lib.hid (show LS_ w (w4.alloc (.cells #[vi 0] 3)) cs n ((List.replicate n (-1)).set 0 0) (List.replicate n 0) [0] (some ⟨w4.heap.size, 0, none⟩) 1 from
        { H4.out.1.step hb4 with lst := Own.lit 3 #[vi 0] 1 (by rw [H4.out.2]; exact Nat.le_refl _) (by decide) rfl })
      have HB0 := Lib.hid (show BF d 0 ((List.replicate n (-1)).set 0 0) [0] (fun _ => 0) from HR.out.2.2 ▸ BF.start HR.out.2.1)
      clear HL0 d1 hb4
      go_wp2_with fail
      go_loopw [7, 8] (fun s7 s8 wr => ∃ (i : Nat) (fr : List Int) (bl l : List Nat) (dep : Nat → Nat) (Al : Option Addr) (cl : Nat), s8 = vi i ∧ s7 = .slice Al l.length cl ∧ LS_ w wr cs n fr bl l Al cl ∧ BF d i fr l dep) (fun _ s8 _ => n - (intOf s8).toNat)
      case atStart => exact ⟨0, _, _, [0], _, _, _, rfl, rfl, H5.out, HB0.out⟩
      case round =>
        clear H5 HB0 H4
        obtain ⟨i, fr, bl, l, dep, Al, cl, rfl, rfl, hL, hB⟩ := hrel
        have hln : l.length ≤ n := by rw [← HR.out.2.2]; exact nodup_le _ _ hB.nd hB.lt
        have hlc := hL.lst.cap.1
        have HL := Lib.hid hL
        have HB := Lib.hid hB
        clear hL hB
        by_cases hlt : i < l.length
        · have d1 : decide ((i : Int) < (l.length : Int)) = true := by simp; omega
          obtain ⟨al, rfl, cl0⟩ := HL.out.lst.vi_at hlt
          have hsn : l.getD i 0 < n := by rw [← HR.out.2.2]; exact HB.out.lt _ (getD_mem' hlt)
          have hsm : l.getD i 0 ∈ l := getD_mem' hlt
          obtain ⟨s, hs⟩ : ∃ s, l.getD i 0 = s := ⟨_, rfl⟩
          rw [hs] at cl0 hsn hsm
          have hTC : TC wr w.heap.size (tableOf d) := ⟨⟨cs, HL.out.box, HR.out.1.below HL.out.below⟩, tableOf_wt HR.out.2.1⟩
          obtain ⟨na, ca1, x, ax, nf, h1, hx, hna⟩ := hTC.acc (p := s) (show s < d.nxt.length by rw [HR.out.2.2]; exact hsn)
          obtain ⟨n1, n2⟩ := nf
          have HS := Lib.hid (And.intro hs (And.intro hsm hx))
          have HTC := Lib.hid hTC
          clear hs hsm hx hTC
          cases x with
          | true =>
            have hds : dep s ≤ i := by rw [← HS.out.1]; exact HB.out.small i hlt
            have HDs := Lib.hid hds
            have hin : i < n := by omega
            go_upto_region 16 with fail
            clear cl0 n1 n2
            have H0 := Lib.hid (show LS_ w (wr.alloc (.cells #[] 5)) cs n fr bl l (some al) cl ∧ Own (wr.alloc (.cells #[] 5)) (w.heap.size + 1 + 1 + 1) 5 (some ⟨wr.heap.size, 0, none⟩) ([] : List Nat).length 0 (u8s []) from
              ⟨HL.out.step ((Below.refl _ _).alloc (Nat.le_refl _) _), Own.lit 5 #[] 0 (by have := HL.out.bb.lt; omega) (by decide) rfl⟩)
            go_loopw [9, 10] (fun s9 s10 wx => ∃ (u : Nat) (wl : List Nat) (A : Option Addr) (c : Nat), s9 = vi u ∧ s10 = .slice A wl.length c ∧ u ∈ l ∧ wl.length + dep u = dep s ∧ LS_ w wx cs n fr bl l (some al) cl ∧ Own wx (w.heap.size + 1 + 1 + 1) 5 A wl.length c (u8s wl)) (fun s9 _ _ => dep (intOf s9).toNat)
            case atStart => exact ⟨s, [], _, 0, rfl, rfl, HS.out.2.1, by simp, H0.out.1, H0.out.2⟩
            case round =>
              clear H0 HL HTC
              obtain ⟨u, wl, A, c, rfl, rfl, hul, hdu, hL, hO⟩ := hrel
              have hun : u < n := by rw [← HR.out.2.2]; exact HB.out.lt _ hul
              have hwl : wl.length ≤ dep s := by omega
              have hwc := hO.cap.1
              have HL := Lib.hid (And.intro hL hO)
              have HU := Lib.hid (And.intro hul hdu)
              clear hL hO hul hdu
              by_cases hu0 : u = 0
              · have HU0 := Lib.hid (show wl.length = dep s by
                  have := HU.out.2
                  rw [hu0, HB.out.d0] at this
                  omega)
                have d2 : ((u : Int) == 0) = true := by simp [hu0]
                go_wp2_with fail
                refine bodyPost_ret (results_tmp2 rfl _ _ _) rfl ?_
                have hf := HB.out.found hlt (by rw [HS.out.1]; exact HS.out.2.2)
                rw [HS.out.1, ← HU0.out] at hf
                exact ⟨A, wl.length, c, true, rfl, by have := HDs.out; omega, hf, HL.out.1.below⟩
              · have d2 : ((u : Int) == 0) = false := by simp [hu0]
                have d3 : ((u : Int) != 0) = true := by simp [hu0]
                obtain ⟨v, hvl, hfv, hdv⟩ := HB.out.back u HU.out.1 hu0
                have fl := HB.out.fl
                have HV := Lib.hid (And.intro hvl (And.intro hfv hdv))
                have HFl := Lib.hid (fl.trans HR.out.2.2)
                clear hvl hfv hdv fl
                have f2 := (HL.out.1.bb.cell u).trans (u8a_get (by rw [HL.out.1.bn]; exact hun))
                obtain ⟨x, hx⟩ : ∃ x, bl.getD u 0 = x := ⟨_, rfl⟩
                rw [hx] at f2
                go_upto_region 17 with (first
                  | (at_builtin
                     refine wpList_appendSS rfl (.tmp 59) (.tmp 60) 22 rfl app22s (w.heap.size + 1 + 1 + 1) (some ⟨wr.heap.size, 0, none⟩) 1 1 [.int .u8 (x : Nat)] rfl (Own.lit 5 #[.int .u8 (x : Nat)] 1 (by have := HL.out.1.bb.lt; omega) (by decide) rfl) A wl.length c (u8s wl) rfl (by rw [u8s_len, Nat.mul_one]) (K := TT) ((HL.out.2.alloc _).sl fun _ _ => trivial) (u8s_one wl) (by have := HDs.out; omega) (by have := HDs.out; omega) (by have := HL.out.1.bb.lt; rw [World.size_alloc]; omega) ?_
                     intro A9 c9 w9 hown hgr hA
                     have hb9 : Below wr.heap.size wr w9 := below_grown ((Below.refl _ _).alloc (Nat.le_refl _) _) hgr (by rw [World.size_alloc]; omega) (fun k e => by cases e; exact Nat.le_refl _)
                     have H9 := Lib.hid (show LS_ w w9 cs n fr bl l (some al) cl ∧ Own w9 (w.heap.size + 1 + 1 + 1) 5 A9 (1 + wl.length) c9 (u8s (x :: wl)) from ⟨HL.out.1.step hb9, hown⟩)
                     clear hown hgr hA hb9))
                clear f2
                have f3 : w9.cell? ⟨w.heap.size + 1, u, none⟩ = some (vi v) := (H9.out.1.fb.cell u).trans ((zia_get (by rw [HFl.out]; exact hun)).trans (by rw [HV.out.2.1]))
                go_wp2_with fail
                go_roundw
                case rel => exact ⟨v, x :: wl, A9, c9, rfl, by rw [List.length_cons, Nat.add_comm], HV.out.1, by have := HV.out.2.2; have := HU.out.2; rw [List.length_cons]; omega, H9.out.1, by rw [List.length_cons, Nat.add_comm wl.length 1]; exact H9.out.2⟩
                case measure =>
                  have := HV.out.2.2
                  simp [intOf]; omega
          | false =>
            go_upto_region 20 with fail
            clear cl0 n1 n2
            have HBB := Lib.hid (show BB d i 0 fr l dep from ⟨HB.out, hlt, by rw [HS.out.1]; exact HS.out.2.2, fun x hx => by omega⟩)
            go_wp2_with fail
            go_loopw [7, 63] (fun s7 s63 wx => ∃ (b : Nat) (fr' : List Int) (bl' l' : List Nat) (dep' : Nat → Nat) (Al' : Option Addr) (cl' : Nat), b ≤ 256 ∧ s63 = vi b ∧ s7 = .slice Al' l'.length cl' ∧ LS_ w wx cs n fr' bl' l' Al' cl' ∧ BB d i b fr' l' dep' ∧ l'.getD i 0 = s) (fun _ s63 _ => 256 - (intOf s63).toNat)
            case atStart => exact ⟨0, fr, bl, l, dep, _, _, Nat.zero_le _, rfl, rfl, HL.out, HBB.out, HS.out.1⟩
            case round =>
              clear HL HBB HTC HB
              obtain ⟨b, fr', bl', l', dep', Al', cl', hb, rfl, rfl, hL, hB, hs'⟩ := hrel
              have hln' : l'.length ≤ n := by rw [← HR.out.2.2]; exact nodup_le _ _ hB.bf.nd hB.bf.lt
              have hlc' := hL.lst.cap.1
              have hfl : fr'.length = n := hB.bf.fl.trans HR.out.2.2
              have HL := Lib.hid hL
              have HB := Lib.hid (And.intro hB hs')
              have HF := Lib.hid hfl
              clear hL hB hs' hfl
              by_cases hbn : b < 256
              · have d2 : decide ((b : Int) < 256) = true := by simp; omega
                go_upto_region 23 with fail
                have tc : TC wr w.heap.size (tableOf d) := ⟨⟨cs, HL.out.box, HR.out.1.below HL.out.below⟩, tableOf_wt HR.out.2.1⟩
                obtain ⟨n', c1, C, c2', c, v, ax2, ar, nf, h1, h2, hv, hv2, hv9, h3, h4⟩ := tc.next (p := s) (show s < d.nxt.length by rw [HR.out.2.2]; exact hsn) hbn
                have HV := Lib.hid (show tgT (tableOf d) s b = v from hv)
                have hvn : v < n := by rw [← HR.out.2.2]; exact hv2
                clear hv tc hv2
                refine wp_region_ws (by kernel_rfl) [true, true, true, true, true, true, true, true, true, true, true, true] 12 (fun W => NF W w.heap.size s b n' c1 C c2' c v ax2 ar) (by decide +kernel) (fun _ _ d _ _ h => by cases d <;> exact h) nf ?_
                clear nf
                iterate 12 (refine ws_r ?_ (fun W hS => ?_) ?_; rotate_left; (focus (obtain ⟨q1, q2, q3, q4⟩ := hS; go_simp; first | done | rfl | rw [if_pos (by omega)])); simp only [Act.put, List.setIfInBounds_toArray, List.set_cons_zero, List.set_cons_succ])
                refine ws_e ?_
                have HL1 := Lib.hid HL.out.drew
                have f1 := (HL1.out.fb.cell v).trans (zia_get (by rw [HF.out]; exact hvn))
                obtain ⟨y, hy⟩ : ∃ y, fr'.getD v 0 = y := ⟨_, rfl⟩
                rw [hy] at f1
                have HY := Lib.hid hy
                clear hy HL
                generalize wr.drew = wd at *
                by_cases hneg : y < 0
                · have d3 : decide (y < 0) = true := by simp; omega
                  go_wp2_with (first
                    | (with_reducible refine at_oper (.store 3 (.tmp 89) (.tmp 86)) rfl ?_
                       refine wpList_store_at rfl 3 (.tmp 89) (.tmp 86) rfl rfl (w.heap.size + 1) v (vi s) _ 3 rfl rfl HL1.out.fb (by rw [zia_size, HF.out]; exact hvn) size3 rfl ?_
                       intro w4 k4 o4
                       have H4 := Lib.hid (HL1.out.setf k4 o4)
                       clear k4 o4)
                    | (with_reducible refine at_oper (.store 5 (.tmp 90) (.tmp 88)) rfl ?_
                       refine wpList_store_at rfl 5 (.tmp 90) (.tmp 88) rfl rfl (w.heap.size + 1 + 1) v (.int .u8 (b : Nat)) _ 5 rfl rfl H4.out.bb (by rw [u8a_size, H4.out.bn]; exact hvn) size5 rfl ?_
                       intro w5 k5 o5
                       have H5 := Lib.hid (H4.out.setb k5 o5)
                       clear k5 o5)
                    | (at_builtin
                       refine wpList_push rfl (.tmp 91) (.tmp 93) 64 rfl app64 (w.heap.size + 1 + 1 + 1) Al' l'.length cl' (vis l') rfl (H5.out.lst.alloc _) _ (vi v) rfl ((blk_at (by simp) 3 _).1.cell 0) rfl (by omega) (by omega) (by have := H5.out.bb.lt; rw [World.size_alloc]; omega) ?_
                       intro A9 c9 w9 hown hgr _
                       have H9 := Lib.hid (H5.out.push hown hgr)
                       clear hown hgr))
                  go_roundw
                  case rel =>
                    have hm := HB.out.1.miss HR.out.2.1 hbn (by rw [HB.out.2, HV.out, HY.out]; exact hneg)
                    rw [HB.out.2, HV.out] at hm
                    exact ⟨b + 1, _, _, l' ++ [v], _, A9, c9, by omega, by go_num, by simp, H9.out, hm, by rw [getD_snoc HB.out.1.ii]; exact HB.out.2⟩
                  case measure => simp [intOf]; omega
                · have d3 : decide (y < 0) = false := by simp; omega
                  go_wp2_with fail
                  go_roundw
                  case rel =>
                    have hm := HB.out.1.hit HR.out.2.1 hbn (by rw [HB.out.2, HV.out, HY.out]; omega)
                    exact ⟨b + 1, fr', bl', l', dep', Al', cl', by omega, by go_num, rfl, HL1.out, hm, HB.out.2⟩
                  case measure => simp [intOf]; omega
              · have d2 : decide ((b : Int) < 256) = false := by simp; omega
                have hb256 : b = 256 := by omega
                have hB2 := HB.out.1
                rw [hb256] at hB2
                have HN := Lib.hid (hB2.next HR.out.2.1)
                clear hB2 hb256
                go_wp2_with fail
                go_roundw
                case rel => exact ⟨i + 1, fr', bl', l', dep', Al', cl', by go_num, rfl, HL.out, HN.out⟩
                case measure => simp [intOf]; omega
        · have d1 : decide ((i : Int) < (l.length : Int)) = false := by simp; omega
          have HN := Lib.hid (show ∀ k, ¬ HasLen d k by
            have h := HB.out
            have := h.il
            rw [show i = l.length by omega] at h
            exact h.none_)
          go_wp2_with fail
          refine bodyPost_ret (results_tmp2 rfl _ _ _) rfl ?_
          exact ⟨none, 0, 0, false, rfl, by omega, HN.out, HL.out.below⟩

theorem app60 : AppT Tryz.prog 60 33 24 := AppT.of (.slice none 0 0) Tryz.underlying60 (by kernel_rfl) rfl
set_option maxRecDepth 100000 in
set_option maxHeartbeats 4000000 in
theorem with42_c (A : Option Addr) (N c k : Nat) (us : List Value) (Av : Option Addr) (nv cv : Nat) (w : World) (hs : Sl w TT A us) (hl : us.length = N) (_hNc : N ≤ c) (hk : k ≤ N) (hN : N ≤ 3000000) (hu : ∀ u ∈ us, ∃ A n c, u = .slice A n c) :
    Calls Tryz.prog 42 #[.slice A N c, vi k, .slice Av nv cv] w fun e w' => ∃ A' c', e = .returned (.slice A' (k + 1) c') ∧ Own w' w.heap.size 33 A' (k + 1) c' (us.take k ++ [.slice Av nv cv]) ∧ Below w.heap.size w w' := by
  have HS := Lib.hid (And.intro hs (And.intro hl hu))
  clear hs hl hu
  go_enter Tryz.func42, Tryz.ntmps42
  go_upto_region 2 with fail
  have H2 := Lib.hid (show Below w.heap.size w (w.alloc (.cells #[] 33)) ∧ Own (w.alloc (.cells #[] 33)) w.heap.size 33 (some ⟨w.heap.size, 0, none⟩) 0 0 (us.take 0) from
    ⟨(Below.refl _ _).alloc (Nat.le_refl _) _, by have h := Own.lit (w := w) (base := w.heap.size) 33 #[] 0 (Nat.le_refl _) (by decide) rfl; simpa using h⟩)
  generalize w.alloc (.cells #[] 33) = w2 at *
  go_wp2_with fail
  go_loopw [7, 8] (fun s7 s8 wr => ∃ (i : Nat) (A' : Option Addr) (c' : Nat), i ≤ k ∧ s8 = vi i ∧ s7 = .slice A' i c' ∧ Below w.heap.size w wr ∧ Own wr w.heap.size 33 A' i c' (us.take i)) (fun _ s8 _ => k - (intOf s8).toNat)
  case atStart => exact ⟨0, _, _, Nat.zero_le _, rfl, rfl, H2.out⟩
  case round =>
    clear H2
    obtain ⟨i, A', c', hi, rfl, rfl, hB⟩ := hrel
    have HB := Lib.hid hB
    have hc' := hB.2.cap.1
    clear hB
    by_cases hlt : i < k
    · have d1 : decide ((i : Int) < k) = true := by simp; omega
      have hiN : i < N := by omega
      obtain ⟨u, hu⟩ : ∃ u, us[i]? = some u := ⟨_, List.getElem?_eq_getElem (by rw [HS.out.2.1]; exact hiN)⟩
      obtain ⟨A1, n1, c1, rfl⟩ := HS.out.2.2 u (List.mem_of_getElem? hu)
      obtain ⟨ad, rfl, _, hq⟩ := HS.out.1 i _ hu
      have fi : wr.cell? (ad.add i) = some (.slice A1 n1 c1) := cell_below HB.out.1 hq
      have HU := Lib.hid hu
      clear hu hq
      go_wp2_with (first
        | (at_builtin
           have hsz := HB.out.1.size
           refine wpList_push rfl (.tmp 15) (.tmp 20) 60 rfl app60 w.heap.size A' i c' (us.take i) rfl (HB.out.2.alloc _) _ (.slice A1 n1 c1) rfl ((Blk.new wr 33 _).cell 0) rfl (by omega) (by omega) (by rw [World.size_alloc]; omega) ?_
           intro A4 c4 w4 own4 g4 _
           have H4 := Lib.hid (show Below w.heap.size w w4 ∧ Own w4 w.heap.size 33 A4 (i + 1) c4 (us.take (i + 1)) from
             ⟨below_grown (HB.out.1.alloc HB.out.1.size _) g4 (by rw [World.size_alloc]; omega) (fun k e => (HB.out.2.lt _ e).1), by rw [take_snoc_of HU.out]; exact own4⟩)
           clear own4 g4 hsz))
      go_roundw
      case rel => exact ⟨i + 1, A4, c4, by omega, by go_num, rfl, H4.out⟩
      case measure => simp [intOf]; omega
    · have d1 : decide ((i : Int) < k) = false := by simp; omega
      obtain rfl : k = i := by omega
      go_wp2_with (first
        | (at_builtin
           have hsz := HB.out.1.size
           refine wpList_push rfl (.tmp 22) (.tmp 24) 60 rfl app60 w.heap.size A' k c' (us.take k) rfl (HB.out.2.alloc _) _ (.slice Av nv cv) rfl ((Blk.new wr 33 _).cell 0) rfl (by omega) (by omega) (by rw [World.size_alloc]; omega) ?_
           intro A4 c4 w4 own4 g4 _
           have H4 := Lib.hid (show Below w.heap.size w w4 ∧ Own w4 w.heap.size 33 A4 (k + 1) c4 (us.take k ++ [.slice Av nv cv]) from
             ⟨below_grown (HB.out.1.alloc HB.out.1.size _) g4 (by rw [World.size_alloc]; omega) (fun k e => (HB.out.2.lt _ e).1), own4⟩)
           clear own4 g4 hsz))
      go_ret
      exact ⟨A4, c4, rfl, H4.out.2, H4.out.1⟩

def sumL : List (List Nd) → Nat
  | [] => 0
  | x :: r => x.length + sumL r
theorem sumL_append : ∀ a b : List (List Nd), sumL (a ++ b) = sumL a + sumL b
  | [], b => by simp [sumL]
  | x :: a, b => by rw [List.cons_append, sumL, sumL, sumL_append a b]; omega
theorem sumL_take {xs : List (List Nd)} {k : Nat} (h : k < xs.length) : sumL (xs.take (k + 1)) = sumL (xs.take k) + (xs.getD k []).length := by
  have e : xs[k]? = some (xs.getD k []) := by rw [List.getD_eq_getElem?_getD, List.getElem?_eq_getElem h]; rfl
  rw [take_snoc_of e, sumL_append]
  simp [sumL]
theorem sumL_take_le : ∀ (xs : List (List Nd)) (k : Nat), sumL (xs.take k) ≤ sumL xs
  | [], k => by simp [sumL]
  | x :: r, 0 => by simp [sumL]
  | x :: r, k + 1 => by
    have := sumL_take_le r k
    rw [List.take_succ_cons, sumL, sumL]; omega
/-- a stack of trees of at most T nodes in all -/
structure RXX (w : World) (A : Option Addr) (N c T : Nat) (us : List Value) (xs : List (List Nd)) : Prop where
  lu : us.length = N
  lx : xs.length = N
  cap : N ≤ c
  sl : Sl w TT A us
  ok : ∀ j, j < N → ∃ A' c', us[j]? = some (.slice A' (xs.getD j []).length c') ∧ RX w TT A' (xs.getD j []).length c' (xs.getD j []) ∧ GoodX (xs.getD j [])
  sum : sumL xs ≤ T
theorem RXX.below {w w' : World} {A : Option Addr} {N c T : Nat} {us : List Value} {xs : List (List Nd)} (h : RXX w A N c T us xs) (hb : Below w.heap.size w w') : RXX w' A N c T us xs :=
  ⟨h.lu, h.lx, h.cap, h.sl.old (Old.of_below hb), fun j hj => by
    obtain ⟨A', c', e, h1, h2⟩ := h.ok j hj
    exact ⟨A', c', e, h1.below hb, h2⟩, h.sum⟩
theorem RXX.slices {w : World} {A : Option Addr} {N c T : Nat} {us : List Value} {xs : List (List Nd)} (h : RXX w A N c T us xs) : ∀ u ∈ us, ∃ A n c, u = .slice A n c := fun u hu => by
  obtain ⟨j, hj, rfl⟩ := List.mem_iff_getElem.1 hu
  obtain ⟨A', c', e, _⟩ := h.ok j (by rw [← h.lu]; exact hj)
  rw [List.getElem?_eq_getElem hj] at e
  exact ⟨_, _, _, Option.some.inj e⟩
theorem RXX.le {w : World} {A : Option Addr} {N c T : Nat} {us : List Value} {xs : List (List Nd)} (h : RXX w A N c T us xs) {j : Nat} (hj : j < N) : (xs.getD j []).length ≤ T := by
  have h1 := sumL_take (xs := xs) (k := j) (by rw [h.lx]; exact hj)
  have h2 := sumL_take_le xs (j + 1)
  have := h.sum
  omega
/-- N trees have at least N nodes -/
theorem RXX.many {w : World} {A : Option Addr} {N c T : Nat} {us : List Value} {xs : List (List Nd)} (h : RXX w A N c T us xs) : N ≤ T := by
  have key : ∀ k, k ≤ N → k ≤ sumL (xs.take k) := fun k => by
    induction k with
    | zero => intro _; exact Nat.zero_le _
    | succ k ih =>
      intro hk
      have h1 := sumL_take (xs := xs) (k := k) (by rw [h.lx]; omega)
      obtain ⟨_, _, _, _, hg⟩ := h.ok k (by omega)
      have := hg.pos
      have := ih (by omega)
      omega
  have h1 := key N (Nat.le_refl _)
  have h2 := sumL_take_le xs N
  have := h.sum
  omega
theorem RXX.put {w w' : World} {A : Option Addr} {N c T : Nat} {us : List Value} {xs : List (List Nd)} (h : RXX w A N c T us xs) (hb : Below w.heap.size w w') {k base : Nat} (hk : k ≤ N) {A2 : Option Addr} {c2 : Nat} {Av : Option Addr} {cv : Nat} {x' : List Nd}
    (own : Own w' base 33 A2 (k + 1) c2 (us.take k ++ [.slice Av x'.length cv])) (hx : RX w' TT Av x'.length cv x') (hg : GoodX x') {T' : Nat} (hT : sumL (xs.take k) + x'.length ≤ T') : RXX w' A2 (k + 1) c2 T' (us.take k ++ [.slice Av x'.length cv]) (xs.take k ++ [x']) := by
  have hku : (us.take k).length = k := by rw [List.length_take, h.lu]; omega
  have hkx : (xs.take k).length = k := by rw [List.length_take, h.lx]; omega
  refine ⟨by simp [hku], by simp [hkx], own.cap.1, own.sl fun _ _ => trivial, fun j hj => ?_, by rw [sumL_append]; simp [sumL]; omega⟩
  by_cases hjk : j < k
  · obtain ⟨A', c', e, h1, h2⟩ := h.ok j (by omega)
    have e2 : (xs.take k ++ [x']).getD j [] = xs.getD j [] := by
      rw [List.getD_eq_getElem?_getD, List.getElem?_append_left (by omega), List.getElem?_take_of_lt hjk, ← List.getD_eq_getElem?_getD]
    rw [e2]
    exact ⟨A', c', by rw [List.getElem?_append_left (by omega), List.getElem?_take_of_lt hjk]; exact e, h1.below hb, h2⟩
  · have hj0 : j = k := by omega
    have e2 : (xs.take k ++ [x']).getD j [] = x' := by
      rw [List.getD_eq_getElem?_getD, List.getElem?_append_right (by omega), hkx, hj0]; simp
    rw [e2]
    exact ⟨Av, cv, by rw [List.getElem?_append_right (by omega), hku, hj0]; simp, hx, hg⟩

theorem results_tmp4 {fn : Func} {t u v x : Tmp} (h : fn.results = #[.tmp t, .tmp u, .tmp v, .tmp x]) (tmps : Array Value) (P : Program) (w : World) :
    (results fn tmps).run P w = .ok (.tuple #[tmps.getD t undef, tmps.getD u undef, tmps.getD v undef, tmps.getD x undef]) w := by
  simp [results, h]
def upF (x : Nat) : Nat := if 97 ≤ x ∧ x ≤ 122 then x - 32 else x
set_option maxRecDepth 100000 in
theorem upper_c (x : Nat) (hx : x < 256) (w : World) : Calls Tryz.prog 62 #[.int .u8 x] w fun e w' => e = .returned (.int .u8 (upF x : Nat)) ∧ w' = w := by
  by_cases h1 : 97 ≤ x
  · have d1 : decide ((x : Int) ≥ 97) = true := by simp; omega
    by_cases h2 : x ≤ 122
    · have d2 : decide ((x : Int) ≤ 122) = true := by simp; omega
      obtain ⟨y, hy⟩ : ∃ y, x - 32 = y := ⟨_, rfl⟩
      have hs : (x : Int) - 32 = (y : Int) := by omega
      have hw : IntKind.u8.wrap (y : Int) = (y : Int) := by rw [IntKind.wrap_u8]; omega
      have HU := Lib.hid (show upF x = y by unfold upF; rw [if_pos ⟨h1, h2⟩, hy])
      clear h1 h2 hy
      go_enter Tryz.func62, Tryz.ntmps62
      go_wp2_with (first
        | (with_reducible refine wpList_unguard ?_ ?_ ?_
           rfl
           rfl))
      go_ret
      exact ⟨by rw [HU.out]; rfl, rfl⟩
    · have d2 : decide ((x : Int) ≤ 122) = false := by simp; omega
      have HU := Lib.hid (show upF x = x by unfold upF; rw [if_neg (by omega)])
      clear h1 h2
      go_enter Tryz.func62, Tryz.ntmps62
      go_wp2_with (first
        | (with_reducible refine wpList_unguard ?_ ?_ ?_
           rfl
           rfl))
      go_ret
      exact ⟨by rw [HU.out]; rfl, rfl⟩
  · have d1 : decide ((x : Int) ≥ 97) = false := by simp; omega
    have HU := Lib.hid (show upF x = x by unfold upF; rw [if_neg (by omega)])
    clear h1
    go_enter Tryz.func62, Tryz.ntmps62
    go_wp2_with (first
      | (with_reducible refine wpList_unguard ?_ ?_ ?_
         rfl
         rfl))
    go_ret
    exact ⟨by rw [HU.out]; rfl, rfl⟩
/-- an operation's value -/
abbrev opC : Array Value := #[vi 2, .slice none 0 0, .slice none 0 0]
theorem size50 : (Tryz.prog.info? 50).map (·.size) = some 3 := by kernel_rfl
set_option maxRecDepth 100000 in
set_option maxHeartbeats 2000000 in
theorem op61_c (base : Nat) (A : Option Addr) (n c x : Nat) (l : List Nat) (w : World) (hx : x < 256) (ho : Own w base 5 A n c (u8s l)) (hn : n ≤ 1000) (hb : base ≤ w.heap.size) : Calls Tryz.prog 61 #[.agg opC, .slice A n c, .int .u8 x] w
    fun e w' => ∃ A' c', e = .returned (.slice A' (n + 1) c') ∧ Own w' base 5 A' (n + 1) c' (u8s (l ++ [upF x])) ∧ Below base w w' := by
  have HO := Lib.hid ho
  have hcap := ho.cap.1
  clear ho
  go_enter Tryz.func61, Tryz.ntmps61
  go_wp2_with (first
    | (with_reducible refine at_oper (.box 50 (.tmp 0)) rfl ?_
       refine wpList_box_rowG w.heap.size rfl rfl 50 (.tmp 0) rfl opC rfl ?_
       intro w1 k1 b1 s1
       have H1 := Lib.hid (show Own w1 base 5 A n c (u8s l) ∧ Below base w w1 ∧ base ≤ w1.heap.size from ⟨HO.out.below b1, b1.mono hb, by omega⟩)
       clear k1 b1 s1)
    | (go_at_call 62
       refine (upper_c x hx w1).mono ?_
       rintro e w2 ⟨rfl, hw⟩
       have hw := hw.symm
       subst hw)
    | (at_builtin
       refine wpList_push rfl (.tmp 7) (.tmp 10) 22 rfl app22 base A n c (u8s l) rfl (H1.out.1.alloc _) _ (.int .u8 (upF x : Nat)) rfl ((Blk.new w1 5 _).cell 0) rfl (by omega) (by omega) (by rw [World.size_alloc]; have := H1.out.2.2; omega) ?_
       intro A4 c4 w4 own4 g4 _
       have H4 := Lib.hid (show Own w4 base 5 A4 (n + 1) c4 (u8s (l ++ [upF x])) ∧ Below base w w4 from ⟨by simpa [u8s] using own4, below_grown (H1.out.2.1.alloc H1.out.2.2 _) g4 (by rw [World.size_alloc]; have := H1.out.2.2; omega) (fun k e => (H1.out.1.lt _ e).1)⟩)
       clear own4 g4))
  go_ret
  exact ⟨A4, c4, rfl, H4.out⟩
set_option maxRecDepth 100000 in
set_option maxHeartbeats 4000000 in
theorem op58_c (A : Option Addr) (n c : Nat) (l : List Nat) (gf : Nat) (w : World) (hl : l.length = n) (_hnc : n ≤ c) (hn : n ≤ 100) (h256 : ∀ x ∈ l, x < 256) (hs : Sl w TT A (u8s l)) (hf : w.cell? ⟨gf, 0, none⟩ = some (.func (.func 61) #[] #[])) : Calls Tryz.prog 58 #[.agg opC, .slice A n c, .pointer (some ⟨gf, 0, none⟩)] w
    fun e w' => ∃ A' c', e = .returned (.tuple #[.slice A' n c', .bool true]) ∧ n ≤ c' ∧ Sl w' TT A' (u8s (l.map upF)) ∧ Below w.heap.size w w' := by
  have HS := Lib.hid (And.intro hl (And.intro h256 (And.intro hs hf)))
  clear hl h256 hs hf
  go_enter Tryz.func58, Tryz.ntmps58
  go_upto_region 1 with (first
    | (with_reducible refine at_oper (.box 50 (.tmp 0)) rfl ?_
       refine wpList_box_rowG w.heap.size rfl rfl 50 (.tmp 0) rfl opC rfl ?_
       intro w1 k1 b1 s1
       have H1 := Lib.hid (show Below w.heap.size w w1 ∧ Blk w1 w.heap.size 50 opC from ⟨b1, k1⟩)
       clear k1 b1))
  go_wp2_with fail
  go_loopw [7, 12] (fun s7 s12 wr => ∃ (i : Nat) (A' : Option Addr) (c' : Nat), i ≤ n ∧ s12 = vi i ∧ s7 = .slice A' i c' ∧ Below w.heap.size w wr ∧ Blk wr w.heap.size 50 opC ∧ Own wr (w.heap.size + 1) 5 A' i c' (u8s ((l.take i).map upF)) ∧ w.heap.size + 1 ≤ wr.heap.size) (fun _ s12 _ => n - (intOf s12).toNat)
  case atStart => exact ⟨0, none, 0, Nat.zero_le _, rfl, rfl, H1.out.1, H1.out.2, by simpa [u8s] using Own.nil_ w1 _ _, by omega⟩
  case round =>
    clear H1
    obtain ⟨i, A', c', hi, rfl, rfl, hB⟩ := hrel
    have HB := Lib.hid hB
    have hc' := hB.2.2.1.cap.1
    clear hB
    by_cases hlt : i < n
    · have d1 : decide ((i : Int) < n) = true := by simp; omega
      obtain ⟨x, hx⟩ : ∃ x, l[i]? = some x := ⟨_, List.getElem?_eq_getElem (by rw [HS.out.1]; exact hlt)⟩
      have hx2 : x < 256 := HS.out.2.1 x (List.mem_of_getElem? hx)
      obtain ⟨ad, rfl, _, hq⟩ := HS.out.2.2.1 i (.int .u8 x) (by simp [u8s, hx])
      have fi : wr.cell? (ad.add i) = some (.int .u8 x) := cell_below HB.out.1 hq
      have ff : wr.cell? ⟨gf, 0, none⟩ = some (.func (.func 61) #[] #[]) := cell_below HB.out.1 HS.out.2.2.2
      have HX := Lib.hid hx
      clear hx hq
      go_wp2_with (first
        | (with_reducible refine at_oper (.load 50 (.tmp 3)) rfl ?_
           refine wpList_load_blk rfl 50 (.tmp 3) rfl w.heap.size rfl 50 opC _ HB.out.2.1 Tryz.underlying50 rfl size50 ?_)
        | (go_at_call 61
           refine (op61_c (w.heap.size + 1) A' i c' x ((l.take i).map upF) wr hx2 HB.out.2.2.1 (by omega) HB.out.2.2.2).mono ?_
           rintro e w4 ⟨A4, c4, rfl, own4, b4⟩
           have H4 := Lib.hid (show Below w.heap.size w w4 ∧ Blk w4 w.heap.size 50 opC ∧ Own w4 (w.heap.size + 1) 5 A4 (i + 1) c4 (u8s ((l.take (i + 1)).map upF)) ∧ w.heap.size + 1 ≤ w4.heap.size from
             ⟨HB.out.1.trans (b4.mono (by omega)), HB.out.2.1.below b4 (by omega), by rw [take_snoc_of HX.out, List.map_append]; exact own4, by have := b4.size; have := HB.out.2.2.2; omega⟩)
           clear own4 b4))
      go_roundw
      case rel => exact ⟨i + 1, A4, c4, by omega, by go_num, rfl, H4.out⟩
      case measure => simp [intOf]; omega
    · have d1 : decide ((i : Int) < n) = false := by simp; omega
      obtain rfl : n = i := by omega
      go_wp2_with fail
      refine bodyPost_ret (results_tmp2 rfl _ _ _) rfl ?_
      have h := HB.out.2.2.1
      rw [List.take_of_length_le (by rw [HS.out.1]; exact Nat.le_refl _)] at h
      exact ⟨A', c', rfl, hc', h.sl fun _ _ => trivial, HB.out.1⟩
set_option maxRecDepth 100000 in
theorem sizes_c (w : World) : Calls Tryz.prog 56 #[vi 2] w fun e w' => e = .returned (.tuple #[vi 0, vi 0, vi 0, .bool true]) ∧ w' = w := by
  go_enter Tryz.func56, Tryz.ntmps56
  go_wp2_with fail
  refine bodyPost_ret (results_tmp4 rfl _ _ _) rfl ?_
  exact ⟨rfl, rfl⟩
set_option maxRecDepth 100000 in
set_option maxHeartbeats 2000000 in
theorem valid30_c (w : World) : Calls Tryz.prog 30 #[.agg opC] w (Gives w (vi 0)) := by
  go_enter Tryz.func30, Tryz.ntmps30
  go_upto_region 1 with (first
    | (with_reducible refine at_oper (.box 50 (.tmp 0)) rfl ?_
       refine wpList_box_rowG w.heap.size rfl rfl 50 (.tmp 0) rfl opC rfl ?_
       intro w1 k1 b1 s1))
  have f0 : w1.cell? ⟨w.heap.size, 0, none⟩ = some (vi 2) := k1.cell 0
  have f1 : w1.cell? ⟨w.heap.size, 1, none⟩ = some (.slice none 0 0) := k1.cell 1
  have f2 : w1.cell? ⟨w.heap.size, 2, none⟩ = some (.slice none 0 0) := k1.cell 2
  have HB := Lib.hid b1
  clear k1 b1 s1
  go_wp2_with (first
    | (with_reducible refine wpList_unguard ?_ ?_ ?_
       rfl
       rfl)
    | (go_at_call 56
       refine (sizes_c w1).mono ?_
       rintro e w2 ⟨rfl, hw⟩
       have hw := hw.symm
       subst hw))
  go_ret
  exact ⟨rfl, HB.out⟩
end Go.Proofs.YtjgkdfghjeodeaaGreatDoor
