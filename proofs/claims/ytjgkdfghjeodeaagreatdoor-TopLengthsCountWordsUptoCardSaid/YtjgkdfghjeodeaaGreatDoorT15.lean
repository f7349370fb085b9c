/- automaton.table.reached. -/
import Derived.Test.YtjgkdfghjeodeaaGreatDoorT11
import Derived.Test.YtjgkdfghjeodeaaGreatDoorT12
import Derived.Test.YtjgkdfghjeodeaaGreatDoorT13
namespace Go.Proofs.YtjgkdfghjeodeaaGreatDoor
open Go.RowKit

/-- between two steps of 'reached' -/
structure RS (w wr : World) (cs : Array Value) (seen : List Bool) (l : List Nat) (A : Option Addr) (c : Nat) : Prop where
  below : Below w.heap.size w wr
  tab : Blk wr w.heap.size 73 cs
  seen : Blk wr (w.heap.size + 1) 4 (vbs seen)
  own : Own wr (w.heap.size + 1 + 1) 3 A l.length c (vis l)
section
variable {w wr : World} {cs : Array Value} {seen : List Bool} {l : List Nat} {A : Option Addr} {c : Nat}
theorem RS.drew (h : RS w wr cs seen l A c) : RS w wr.drew cs seen l A c := ⟨h.below.drew, h.tab, h.seen, h.own.keep fun _ _ => rfl⟩
theorem RS.mark (h : RS w wr cs seen l A c) (x : Nat) : RS w (wr.setCell ⟨w.heap.size + 1, x, none⟩ (.bool true)) cs (seen.set x true) l A c := by
  refine ⟨h.below.setCell (p := ⟨w.heap.size + 1, x, none⟩) (by simp) _, h.tab.far (by simp) _, ?_, h.own.only (Only.setCell _ _ _ _) fun e => ?_⟩
  · have := h.seen.set_ x (.bool true)
    rwa [vbs_set] at this
  · have := (h.own.lt _ e).1
    omega
theorem RS.push (h : RS w wr cs seen l A c) {t : TypeId} {x : Nat} {A' : Option Addr} {c' : Nat} {w' : World} (hown : Own w' (w.heap.size + 1 + 1) 3 A' (l.length + 1) c' (vis l ++ [vi x])) (hgr : (wr.alloc (.cells #[vi x] t)).grownBy w' (obl A)) : RS w w' cs seen (l ++ [x]) A' c' := by
  have hs := h.tab.lt
  have hs1 := h.seen.lt
  refine ⟨below_grown (h.below.alloc (by omega) _) hgr (by simp; omega) fun k hk => ?_, (h.tab.alloc _).grown hgr fun e => ?_, (h.seen.alloc _).grown hgr fun e => ?_, ?_⟩
  · have := (h.own.lt _ hk).1; omega
  · have := (h.own.lt _ e).1; omega
  · have := (h.own.lt _ e).1; omega
  · rw [vis_snoc, List.length_append]; exact hown
end

theorem RI.push {n : Nat} {seen : List Bool} {l : List Nat} (h : RI n seen l) {x : Nat} (hx : x < n) (hs : seen.getD x false = false) : RI n (seen.set x true) (l ++ [x]) := by
  have h1 := (rowStep_spec [x] seen l h (fun y hy => by simp at hy; omega)).1
  rw [rowStep, if_neg (by rw [hs]; simp)] at h1
  exact h1

set_option maxHeartbeats 1000000 in
theorem reached_c (K : Nat → Prop) (cs : Array Value) (t : Tbl) (w : World) (hR : RT w K cs t) (hw : WT t) : Calls Tryz.prog 113 #[.agg cs] w
    fun e w' => ∃ A c, e = .returned (.slice A (reached t.nxt).length c) ∧ Own w' w.heap.size 3 A (reached t.nxt).length c (vis (reached t.nxt)) ∧ Below w.heap.size w w' := by
  obtain ⟨A2, A3, c2, c3, hcs, hrr, _, hcl, _, _⟩ := tab_fields hR
  obtain ⟨n, hn⟩ : ∃ n, t.nxt.length = n := ⟨_, rfl⟩
  have hcap := hrr.cap
  have hn1 := hw.pos
  have hn2 := hw.top
  rw [hn] at hcap hn1 hn2
  have hf : cs[257]? = some (.slice A2 n c2) := by rw [hcs, tcells_257 hcl, hn]
  have HR := Lib.hid hrr
  have HW := Lib.hid hw
  have hw1 := hw.pos
  have HN := Lib.hid hn
  clear hR hcs hrr hw hcl
  go_enter Tryz.func113, Tryz.ntmps113
  go_upto_region 3 with (first
    | (with_reducible refine at_oper (.box 73 (.tmp 0)) rfl ?_
       refine wpList_box_rowG w.heap.size rfl rfl 73 (.tmp 0) rfl cs rfl ?_
       intro w1 k1 b1 s1
       have f1 := (k1.cell 257).trans hf)
    | (with_reducible refine at_oper (.makeSlice 26 (.tmp 10) (.tmp 10)) rfl ?_
       refine wpList_makeFullG (w.heap.size + 1) s1 rfl (.tmp 10) (.tmp 10) 26 rfl (.bool false) Tryz.underlying26 info4 rfl n rfl rfl (by omega) (by omega) ?_
       intro w2 k2 b2 s2
       rw [vbs_rep] at k2
       have c20 := (k2.cell 0).trans (vbs_get (by simp; omega))
       have f20 := k2.frozen 0))
  have hrs : RS w ((w2.setCell ⟨w.heap.size + 1, 0, none⟩ (.bool true)).alloc (.cells #[vi 0] 3)) cs ((List.replicate n false).set 0 true) [0] (some ⟨w.heap.size + 1 + 1, 0, none⟩) 1 := by
    have k3 := k2.set_ 0 (.bool true)
    rw [vbs_set] at k3
    have e3 : (w2.setCell ⟨w.heap.size + 1, 0, none⟩ (.bool true)).heap.size = w.heap.size + 1 + 1 := by rw [(Only.setCell _ _ _ _).size]; exact s2
    refine ⟨(((b1.trans (b2.mono b1.size)).setCell (p := ⟨w.heap.size + 1, 0, none⟩) (by simp) _).alloc (by rw [e3]; omega) _), ((k1.old b2).far (by simp) _).alloc _, k3.alloc _, ?_⟩
    have := Own.lit (w := w2.setCell ⟨w.heap.size + 1, 0, none⟩ (.bool true)) (base := w.heap.size + 1 + 1) 3 #[vi 0] 1 (by rw [e3]; exact Nat.le_refl _) (by omega) rfl
    rw [e3] at this
    exact this
  have HRS := Lib.hid hrs
  have h0 : RL t.nxt (n + 1) 0 ((List.replicate n false).set 0 true) [0] := by
    rw [← HN.out]; exact RL.start hw1
  have HL0 := Lib.hid h0
  have HQ0 := Lib.hid (show reachLoop t.nxt (n + 1) 0 ((List.replicate n false).set 0 true) [0] = reached t.nxt by rw [← HN.out]; rfl)
  clear hrs h0 k1 k2 b1 b2 f1 c20 f20
  go_wp2_with fail
  go_loopw [4, 5] (fun s4 s5 wr => ∃ (i f : Nat) (seen : List Bool) (l : List Nat) (A : Option Addr) (c : Nat), s5 = vi i ∧ s4 = .slice A l.length c ∧ RS w wr cs seen l A c ∧ RL t.nxt f i seen l ∧ reachLoop t.nxt f i seen l = reached t.nxt) (fun _ s5 _ => n + 1 - (intOf s5).toNat)
  case atStart => exact ⟨0, n + 1, _, _, _, _, rfl, by simp, HRS.out, HL0.out, HQ0.out⟩
  case round =>
    obtain ⟨i, f, seen, l, A, c, rfl, rfl, hs, hl, hq⟩ := hrel
    have HS := Lib.hid hs
    have HL := Lib.hid hl
    have HQ := Lib.hid hq
    have hfu := hl.fuel
    have hll := nodup_le _ _ hl.ri.nd hl.ri.lt
    rw [HN.out] at hfu hll
    have hcl := hs.own.cap.1
    clear hs hl hq HRS HL0 HQ0
    by_cases hlt : i < l.length
    · have d1 : decide ((i : Int) < (l.length : Int)) = true := by simp; omega
      go_upto_region 7 with fail
      have hsm : l.getD i 0 ∈ l := getD_mem' hlt
      have hsn : l.getD i 0 < n := by rw [← HN.out]; exact HL.out.ri.lt _ hsm
      obtain ⟨adl, rfl, _, cl⟩ : ∃ ad, A = some ad ∧ True ∧ wr.drew.cell? (ad.add i) = some (vi (l.getD i 0)) := by
        obtain ⟨ad, e, _, h⟩ := (HS.out.own.sl (K := TT) fun _ _ => trivial).at_ (k := i) (by rw [vis_len]; exact hlt)
        exact ⟨ad, e, trivial, h.trans (by simp [vis, hlt])⟩
      obtain ⟨adr, Ar, cr, rfl, _, cr0, hrow⟩ := HR.out.at_ (k := l.getD i 0) (by rw [HN.out]; exact hsn)
      have cr1 := cell_below HS.out.drew.below cr0
      clear cr0
      have ct : wr.drew.cell? ⟨w.heap.size, 257, none⟩ = some (.slice (some adr) n c2) := (HS.out.tab.cell 257).trans hf
      obtain ⟨s, hs⟩ : ∃ s, l.getD i 0 = s := ⟨_, rfl⟩
      rw [hs] at hsm hsn cl cr1 hrow
      obtain ⟨row, hrw⟩ : ∃ row, t.nxt.getD s [] = row := ⟨_, rfl⟩
      rw [hrw] at cr1 hrow
      refine wp_region_rd (by kernel_rfl) 10 10 (fun W => W.cell? ⟨w.heap.size, 257, none⟩ = some (.slice (some adr) n c2) ∧ W.cell? (adl.add i) = some (vi s) ∧ W.cell? (adr.add s) = some (.slice Ar row.length cr))
        (by decide +kernel) (fun _ _ d _ _ h => by cases d <;> exact h) ⟨ct, cl, cr1⟩ ?_
      clear ct cl cr1
      dsimp only [List.take]
      iterate 10 (refine ⟨?_, fun W hS => ?_, ?_⟩; rotate_left; (obtain ⟨s1, s2, s3⟩ := hS; go_simp; first | done | rfl); simp only [Act.put, List.setIfInBounds_toArray, List.set_cons_zero, List.set_cons_succ])
      dsimp only [RdC, chainW, List.drop]
      have HP := Lib.hid (And.intro hsm (And.intro hsn hs))
      have hrl : Lt n row := by
        rw [← hrw, ← HN.out]; exact (HW.out.row _ (getD_mem' (by rw [HN.out]; exact hsn))).2
      have HRow := Lib.hid hrow
      have HRW := Lib.hid hrw
      have HS0 := Lib.hid HS.out.drew
      have HQ1 := Lib.hid (And.intro hrl (show f = (f - 1) + 1 from by omega))
      obtain ⟨m, hm⟩ : ∃ m, row.length = m := ⟨_, rfl⟩
      rw [hm] at HRow ⊢
      have hmb := HRow.out.big
      have HM := Lib.hid hm
      clear hsm hsn hs hrl hrow hrw hm HS
      generalize wr.drew = wd at *
      go_wp2_with fail
      go_loopw [4, 30] (fun s4 s30 wx => ∃ (k : Nat) (seen' : List Bool) (l' : List Nat) (A' : Option Addr) (c' : Nat), k ≤ m ∧ s30 = vi k ∧ s4 = .slice A' l'.length c' ∧ RS w wx cs seen' l' A' c' ∧ RI n seen' l' ∧ rowStep (row.drop k) seen' l' = rowStep row seen l) (fun _ s30 _ => m - (intOf s30).toNat)
      case atStart => exact ⟨0, seen, l, some adl, c, Nat.zero_le _, rfl, rfl, HS0.out, HN.out ▸ HL.out.ri, rfl⟩
      case round =>
        obtain ⟨k, seen', l', A', c', hk, rfl, rfl, hs', hri, hst⟩ := hrel
        have HS' := Lib.hid hs'
        have HRI := Lib.hid hri
        have HST := Lib.hid hst
        have hl' := nodup_le _ _ hri.nd hri.lt
        have hc' := hs'.own.cap.1
        clear hs' hri hst HS0
        by_cases hlk : k < m
        · have d2 : decide ((k : Int) < m) = true := by simp; omega
          obtain ⟨adk, rfl, _, ck⟩ := (HRow.out.below HS'.out.below).at_ hlk
          have hkr : k < row.length := by rw [HM.out]; exact hlk
          have hx := HQ1.out.1 _ (getD_mem' (d := 0) hkr)
          have hdr := getD_drop hkr
          obtain ⟨x, hx0⟩ : ∃ x, row.getD k 0 = x := ⟨_, rfl⟩
          rw [hx0] at ck hx hdr
          have HST1 := Lib.hid (hdr ▸ HST.out)
          have hsl : seen'.length = n := HRI.out.len
          have cs1 := (HS'.out.seen.cell x).trans (vbs_get (by rw [hsl]; exact hx))
          have fs1 := HS'.out.seen.frozen x
          obtain ⟨b, hb⟩ : ∃ b, seen'.getD x false = b := ⟨_, rfl⟩
          have hb' := hb
          rw [hb] at cs1
          have HB := Lib.hid (And.intro hb hdr)
          clear hb hdr hx0 HST hkr hb'
          cases b with
          | true =>
            go_wp2_with fail
            go_roundw
            case rel => exact ⟨k + 1, seen', l', A', c', by omega, by go_num, rfl, HS'.out, HRI.out, by
              have := HST1.out
              rwa [rowStep, if_pos HB.out.1] at this⟩
            case measure => simp [intOf]; omega
          | false =>
            have HM1 := Lib.hid (HS'.out.mark x)
            go_wp2_with (first
             | (at_builtin
                refine wpList_push rfl (.tmp 42) (.tmp 44) 64 rfl app64 (w.heap.size + 1 + 1) A' l'.length c' (vis l') rfl (HM1.out.own.alloc _) _ (vi x) rfl ((blk_at (by simp) 3 _).1.cell 0) rfl (by omega) (by omega) (by have := HM1.out.seen.lt; rw [World.size_alloc]; omega) ?_
                intro A9 c9 w9 hown hgr _
                have HM2 := Lib.hid (HM1.out.push hown hgr)
                clear hown hgr))
            go_roundw
            case rel => exact ⟨k + 1, _, _, A9, c9, by omega, by go_num, by simp, HM2.out, HRI.out.push hx HB.out.1, by
              have := HST1.out
              rwa [rowStep, if_neg (by rw [HB.out.1]; simp)] at this⟩
            case measure => simp [intOf]; omega
        · have d2 : decide ((k : Int) < m) = false := by simp; omega
          obtain rfl : k = m := by omega
          have HE := Lib.hid (show (seen', l') = rowStep row seen l by
            have := HST.out
            rwa [List.drop_of_length_le (by rw [HM.out]; exact Nat.le_refl _)] at this)
          go_wp2_with fail
          go_roundw
          case rel =>
            have hsx : l[i]? = some s := by rw [← HP.out.2.2]; simp [hlt]
            have h1 := HL.out
            rw [HQ1.out.2] at h1
            have h2 := h1.step (fun r hr => (HW.out.row r hr).2) hsx
            have h3 := HQ.out
            rw [HQ1.out.2, reachLoop, hsx] at h3
            dsimp only at h3
            rw [HRW.out, ← HE.out] at h2 h3
            exact ⟨i + 1, f - 1, seen', l', A', c', by go_num, rfl, HS'.out, h2, h3⟩
          case measure => simp [intOf]; omega
    · have d1 : decide ((i : Int) < (l.length : Int)) = false := by simp; omega
      have HFin := Lib.hid (show l = reached t.nxt by
        have := HQ.out
        cases f with
        | zero => exact this
        | succ f =>
          rw [reachLoop, List.getElem?_eq_none (by omega)] at this
          exact this)
      go_wp2_with fail
      go_ret
      rw [← HFin.out]
      have := HS.out.own
      exact ⟨A, c, rfl, ownsRow_mono this (by omega), HS.out.below⟩

/-- between two passes -/
structure RQ (w wr : World) (cs : Array Value) (gb : Nat) (block : List Nat) : Prop where
  below : Below w.heap.size w wr
  tab : Blk wr w.heap.size 73 cs
  blk : Blk wr gb 3 (via block)
  lt : w.heap.size < gb
/-- within a pass -/
structure PS (w wr : World) (cs : Array Value) (gb : Nat) (block : List Nat) (gm : Nat) (ks : List BL) (next reps : List Nat) (A : Option Addr) (c : Nat) : Prop where
  rq : RQ w wr cs gb block
  map : IdMap 9 (fun l : BL => strV l.1) wr gm ks
  nxt : Blk wr (gm + 1) 3 (via next)
  own : Own wr (gm + 1 + 1) 3 A reps.length c (vis reps)
  lt : gb < gm
section
variable {w wr w' : World} {cs : Array Value} {gb gm : Nat} {block next reps : List Nat} {ks : List BL} {A : Option Addr} {c : Nat}
theorem RQ.step (h : RQ w wr cs gb block) (hb : Below wr.heap.size wr w') : RQ w w' cs gb block :=
  ⟨h.below.trans (hb.mono h.below.size), h.tab.old hb, h.blk.old hb, h.lt⟩
theorem RQ.only (h : RQ w wr cs gb block) {g : Nat} (hb : Only g wr w') (hg : gb < g) : RQ w w' cs gb block := by
  have := h.lt
  exact ⟨below_only h.below hb (by omega), h.tab.only hb (by omega), h.blk.only hb (by omega), h.lt⟩
theorem RQ.grown (h : RQ w wr cs gb block) {row : Option Nat} (hg : wr.grownBy w' row) (hr : ∀ k, row = some k → gb < k) : RQ w w' cs gb block := by
  have h1 := h.lt
  have h2 := h.blk.lt
  exact ⟨below_grown h.below hg (by omega) (fun k hk => by have := hr k hk; omega), h.tab.grown hg (fun e => by have := hr _ e; omega), h.blk.grown hg (fun e => by have := hr _ e; omega), h.lt⟩
theorem RQ.set (h : RQ w wr cs gb block) (x v : Nat) : RQ w (wr.setCell ⟨gb, x, none⟩ (vi v)) cs gb (block.set x v) := by
  have h1 := h.lt
  have h2 := h.blk.set_ x (vi v)
  rw [via_set] at h2
  exact ⟨below_only h.below (Only.setCell _ _ _ _) (by omega), h.tab.only (Only.setCell _ _ _ _) (by omega), h2, h.lt⟩
theorem PS.step (h : PS w wr cs gb block gm ks next reps A c) (hb : Below wr.heap.size wr w') : PS w w' cs gb block gm ks next reps A c :=
  ⟨h.rq.step hb, h.map.below hb, h.nxt.old hb, h.own.below hb, h.lt⟩
theorem PS.set (h : PS w wr cs gb block gm ks next reps A c) (x v : Nat) : PS w (wr.setCell ⟨gm + 1, x, none⟩ (vi v)) cs gb block gm ks (next.set x v) reps A c := by
  have h1 := h.lt
  have h2 := h.nxt.set_ x (vi v)
  rw [via_set] at h2
  have ho := Only.setCell wr (gm + 1) x (vi v)
  refine ⟨h.rq.only ho (by omega), h.map.only ho (by omega), h2, h.own.only ho fun e => ?_, h.lt⟩
  have := (h.own.lt _ e).1
  omega
theorem PS.seto (h : PS w wr cs gb block gm ks next reps A c) {x v : Nat} (h2 : Blk w' (gm + 1) 3 ((via next).setIfInBounds x (vi v))) (ho : Only (gm + 1) wr w') : PS w w' cs gb block gm ks (next.set x v) reps A c := by
  have h1 := h.lt
  rw [via_set] at h2
  refine ⟨h.rq.only ho (by omega), h.map.only ho (by omega), h2, h.own.only ho fun e => ?_, h.lt⟩
  have := (h.own.lt _ e).1
  omega
theorem PS.put (h : PS w wr cs gb block gm ks next reps A c) {k : BL} (hm : IdMap 9 (fun l : BL => strV l.1) w' gm (ks ++ [k])) (hg : wr.grownBy w' (some gm)) : PS w w' cs gb block gm (ks ++ [k]) next reps A c := by
  have h1 := h.lt
  refine ⟨h.rq.grown hg (fun k e => by cases e; exact h1), hm, h.nxt.grown hg (fun e => by cases e), h.own.keep fun g e => hg.block g (h.own.lt _ e).2 (fun e' => ?_), h.lt⟩
  have := (h.own.lt _ e).1
  simp at e'
  omega
theorem PS.push (h : PS w wr cs gb block gm ks next reps A c) {t : TypeId} {x : Nat} {A' : Option Addr} {c' : Nat} (hown : Own w' (gm + 1 + 1) 3 A' (reps.length + 1) c' (vis reps ++ [vi x])) (hgr : (wr.alloc (.cells #[vi x] t)).grownBy w' (obl A)) : PS w w' cs gb block gm ks next (reps ++ [x]) A' c' := by
  have h1 := h.lt
  have h2 := h.step (w' := wr.alloc (.cells #[vi x] t)) ((Below.refl _ _).alloc (Nat.le_refl _) _)
  have hb : ∀ k, obl A = some k → gm + 1 + 1 ≤ k := fun k e => (h.own.lt _ e).1
  refine ⟨h2.rq.grown hgr (fun k e => by have := hb k e; omega), h2.map.grown hgr (fun e => by have := hb _ e; omega), h2.nxt.grown hgr (fun e => by have := hb _ e; omega), ?_, h.lt⟩
  rw [vis_snoc, List.length_append]; exact hown
end
theorem nodup_take {l : List Nat} (h : l.Nodup) {k : Nat} (hk : k < l.length) : l.getD k 0 ∉ l.take k := fun hm => by
  rw [List.mem_take_iff_getElem] at hm
  obtain ⟨j, hj, e⟩ := hm
  rw [List.getD_eq_getElem?_getD, List.getElem?_eq_getElem hk, Option.getD_some] at e
  rcases Nat.lt_trichotomy j k with h1 | h1 | h1
  · exact (List.pairwise_iff_getElem.1 h) j k _ hk h1 e
  · omega
  · omega
theorem accBlock_drop (acc : List Bool) (l b : List Nat) (k : Nat) (hk : k < l.length) : accBlock acc (l.drop k) b = accBlock acc (l.drop (k + 1)) (if acc.getD (l.getD k 0) false then b.set (l.getD k 0) 1 else b) := by
  rw [getD_drop hk, accBlock]

set_option maxHeartbeats 4000000 in
set_option maxRecDepth 100000 in
theorem refine_c (K K' : Nat → Prop) (cs : Array Value) (t : Tbl) (Al : Option Addr) (cl : Nat) (l : List Nat) (w : World) (hR : RT w K cs t) (hw : WT t) (hl : RN w K' Al l.length cl l) (hlt : Lt t.nxt.length l) (hnd : l.Nodup) : Calls Tryz.prog 112 #[.agg cs, .slice Al l.length cl] w
    fun e w' => ∃ g A c, e = .returned (.tuple #[.slice (some ⟨g, 0, none⟩) t.nxt.length t.nxt.length, .slice A (refine t l).2.length c]) ∧ w.heap.size ≤ g ∧ Blk w' g 3 (via (refine t l).1) ∧ Own w' w.heap.size 3 A (refine t l).2.length c (vis (refine t l).2) ∧ Below w.heap.size w w' := by
  obtain ⟨A2, A3, c2, c3, hcs, hrr, hrl, hcl, _, _⟩ := tab_fields hR
  obtain ⟨n, hn⟩ : ∃ n, t.nxt.length = n := ⟨_, rfl⟩
  obtain ⟨L, hL⟩ : ∃ L, l.length = L := ⟨_, rfl⟩
  have hLn := nodup_le _ _ hnd hlt
  have hcap := hrr.cap
  have hcap3 := hrl.cap
  have hn1 := hw.pos
  have hn2 := hw.top
  have ha := hw.acc
  rw [hn] at hcap hn1 hn2 hLn ha
  rw [ha] at hcap3
  rw [hL] at hLn hl
  have hf : cs[257]? = some (.slice A2 n c2) := by rw [hcs, tcells_257 hcl, hn]
  have hf8 : cs[258]? = some (.slice A3 n c3) := by rw [hcs, tcells_258 hcl, ha]
  rw [hn, hL]
  have HR := Lib.hid hrr
  have HA := Lib.hid hrl
  have HW := Lib.hid hw
  have HL := Lib.hid hl
  have HX := Lib.hid (And.intro hlt hnd)
  have HN := Lib.hid (And.intro hn (And.intro hL ha))
  clear hR hcs hrr hw hcl hrl hl hlt hnd hn hL ha
  go_enter Tryz.func112, Tryz.ntmps112
  go_upto_region 2 with (first
    | (with_reducible refine at_oper (.box 73 (.tmp 0)) rfl ?_
       refine wpList_box_rowG w.heap.size rfl rfl 73 (.tmp 0) rfl cs rfl ?_
       intro w1 k1 b1 s1
       have f1 := (k1.cell 257).trans hf)
    | (with_reducible refine at_oper (.makeSlice 64 (.tmp 22) (.tmp 22)) rfl ?_
       refine wpList_makeFullG (w.heap.size + 1) s1 rfl (.tmp 22) (.tmp 22) 64 rfl (.int .i64 0) Tryz.underlying64 info3 rfl n rfl rfl (by omega) (by omega) ?_
       intro w2 k2 b2 s2
       rw [via_rep] at k2))
  have HQ0 := Lib.hid (show RQ w w2 cs (w.heap.size + 1) (List.replicate n 0) from ⟨b1.trans (b2.mono b1.size), k1.old b2, k2, by omega⟩)
  clear k1 f1 k2 b1 b2
  go_wp2_with fail
  go_loopw [26] (fun s26 wr => ∃ (k : Nat) (b : List Nat), k ≤ L ∧ s26 = vi k ∧ b.length = n ∧ accBlock t.acc (l.drop k) b = accBlock t.acc l (List.replicate n 0) ∧ RQ w wr cs (w.heap.size + 1) b) (fun s26 _ => L - (intOf s26).toNat)
  case atStart => exact ⟨0, _, Nat.zero_le _, rfl, List.length_replicate, rfl, HQ0.out⟩
  case round =>
    obtain ⟨k, b, hk, rfl, hbl, hab, hq⟩ := hrel
    have HB := Lib.hid (And.intro hbl hab)
    have HQ := Lib.hid hq
    have hlb := HL.out.big
    clear hbl hab hq HQ0
    by_cases hkL : k < L
    · have d1 : decide ((k : Int) < L) = true := by simp; omega
      obtain ⟨adl, rfl, _, ck⟩ := (HL.out.below HQ.out.below).at_ hkL
      obtain ⟨s, hs⟩ : ∃ s, l.getD k 0 = s := ⟨_, rfl⟩
      have hkl : k < l.length := by rw [HN.out.2.1]; exact hkL
      have hsn : s < n := by rw [← hs, ← HN.out.1]; exact HX.out.1 _ (getD_mem' hkl)
      have hdr := accBlock_drop t.acc l b k hkl
      rw [hs] at ck hdr
      obtain ⟨ada, rfl, _, ca⟩ := (HA.out.below HQ.out.below).at_ (k := s) (by rw [HN.out.2.2]; exact hsn)
      have f8 := (HQ.out.tab.cell 258).trans hf8
      have cb := (HQ.out.blk.cell s).trans (via_get (by rw [HB.out.1]; exact hsn))
      have fb := HQ.out.blk.frozen s
      obtain ⟨x, hx⟩ : ∃ x, t.acc.getD s false = x := ⟨_, rfl⟩
      rw [hx] at ca hdr
      have HD := Lib.hid hdr
      have HS := Lib.hid (HQ.out.set s 1)
      clear hdr hx hs hkl
      cases x with
      | true =>
        go_wp2_with fail
        go_roundw
        case rel => exact ⟨k + 1, _, by omega, by go_num, by simp [HB.out.1], by rw [← HB.out.2, HD.out]; rfl, HS.out⟩
        case measure => simp [intOf]; omega
      | false =>
        go_wp2_with fail
        go_roundw
        case rel => exact ⟨k + 1, _, by omega, by go_num, HB.out.1, by rw [← HB.out.2, HD.out]; rfl, HQ.out⟩
        case measure => simp [intOf]; omega
    · have d1 : decide ((k : Int) < L) = false := by simp; omega
      obtain rfl : k = L := by omega
      have HE := Lib.hid (show b = accBlock t.acc l (List.replicate n 0) by
        have := HB.out.2
        rwa [List.drop_of_length_le (by rw [HN.out.2.1]; exact Nat.le_refl _)] at this)
      go_wp2_with fail
      have HF0 := Lib.hid (show RF t.nxt l (k + 2) b 0 by rw [HE.out, ← HN.out.1, ← HN.out.2.1]; exact RF.start l)
      have HG0 := Lib.hid (show refLoop t.nxt l (k + 2) b 0 = refine t l by rw [HE.out, ← HN.out.1, ← HN.out.2.1]; rfl)
      go_loopw [6, 9] (fun s6 s9 wr => ∃ (gb : Nat) (block : List Nat) (count f : Nat), s6 = .slice (some ⟨gb, 0, none⟩) n n ∧ s9 = vi count ∧ RQ w wr cs gb block ∧ RF t.nxt l f block count ∧ refLoop t.nxt l f block count = refine t l) (fun _ s9 _ => k - (intOf s9).toNat)
      case atStart => exact ⟨w.heap.size + 1, b, 0, k + 2, rfl, rfl, HQ.out, HF0.out, HG0.out⟩
      case round =>
        clear HF0 HG0 HE HQ HB
        obtain ⟨gb, block, count, f, rfl, rfl, hq, hrf, hrl⟩ := hrel
        have HQ := Lib.hid hq
        have HRF := Lib.hid hrf
        have HRL := Lib.hid hrl
        have hcl := hrf.le
        rw [HN.out.2.1] at hcl
        have hbs := Lib.hid hq.blk.lt
        clear hq hrf hrl
        go_upto_region 11 with (first
          | (with_reducible refine at_oper (.makeMap 171 none) rfl ?_
             refine wpList_makeMapG 9 (fun l : BL => strV l.1) wr.heap.size rfl rfl 171 rfl ?_
             intro w3 k3 b3 s3)
          | (with_reducible refine at_oper (.makeSlice 64 (.tmp 41) (.tmp 41)) rfl ?_
             refine wpList_makeFullG (wr.heap.size + 1) s3 rfl (.tmp 41) (.tmp 41) 64 rfl (.int .i64 0) Tryz.underlying64 info3 rfl n rfl rfl (by omega) (by omega) ?_
             intro w4 k4 b4 s4
             rw [via_rep] at k4))
        have HP0 := Lib.hid (show PS w w4 cs gb block wr.heap.size [] (List.replicate n 0) [] none 0 from
          ⟨(HQ.out.step b3).step b4, k3.below b4, k4, Own.nil_ _ _ _, hbs.out⟩)
        generalize wr.heap.size = gm at *
        have HPass := Lib.hid (show ∃ PA, refPass block t.nxt l [] (List.replicate block.length 0) [] = PA from ⟨_, rfl⟩)
        obtain ⟨PA, hPA⟩ := HPass.out
        have HPA := Lib.hid hPA
        have HBN := Lib.hid (show block.length = n by rw [HRF.out.bl, HN.out.1])
        clear hPA HPass k3 b3 k4 b4 hbs s3 s4
        go_wp2_with fail
        go_loopw [12, 45] (fun s12 s45 wr => ∃ (i : Nat) (ks : List BL) (next reps : List Nat) (A : Option Addr) (c : Nat), i ≤ k ∧ s45 = vi i ∧ s12 = .slice A reps.length c ∧ PS w wr cs gb block gm ks next reps A c ∧ RP block t.nxt n (l.take i) (keysOf ks) next reps ∧ refPass block t.nxt (l.drop i) (keysOf ks) next reps = PA) (fun _ s45 _ => k - (intOf s45).toNat)
        case atStart => exact ⟨0, [], List.replicate n 0, [], none, 0, Nat.zero_le _, rfl, rfl, HP0.out, by rw [List.take_zero]; exact RP.start block t.nxt n, by rw [← HPA.out, HBN.out]; rfl⟩
        case round =>
          clear HP0 HQ
          obtain ⟨i, ks, next, reps, A, c, hi, rfl, rfl, hp, hrp, hpa⟩ := hrel
          have HP := Lib.hid hp
          have HRP := Lib.hid hrp
          have HE := Lib.hid hpa
          have hrl := hrp.le
          rw [List.length_take, HN.out.2.1] at hrl
          have hrl' : reps.length ≤ k := by omega
          have hac := hp.own.cap.1
          clear hp hrp hpa hrl
          by_cases hik : i < k
          · have d2 : decide ((i : Int) < k) = true := by simp; omega
            obtain ⟨adl, rfl, _, ck⟩ := (HL.out.below HP.out.rq.below).at_ hik
            obtain ⟨s, hs⟩ : ∃ s, l.getD i 0 = s := ⟨_, rfl⟩
            have hkl : i < l.length := by rw [HN.out.2.1]; exact hik
            have hsn : s < n := by rw [← hs, ← HN.out.1]; exact HX.out.1 _ (getD_mem' hkl)
            rw [hs] at ck
            have HSL := Lib.hid (And.intro hs (show s ∉ l.take i by rw [← hs]; exact nodup_take HX.out.2 hkl))
            obtain ⟨adr, Ar, cr, rfl, _, cr0, hrow⟩ := HR.out.at_ (k := s) (by rw [HN.out.1]; exact hsn)
            have cr1 := cell_below HP.out.rq.below cr0
            have ct := (HP.out.rq.tab.cell 257).trans hf
            obtain ⟨row, hrw⟩ : ∃ row, t.nxt.getD s [] = row := ⟨_, rfl⟩
            rw [hrw] at cr1 cr0 hrow
            obtain ⟨m, hm⟩ : ∃ m, row.length = m := ⟨_, rfl⟩
            rw [hm] at cr1 cr0 hrow
            have hmb := hrow.big
            have HRow := Lib.hid hrow
            have HRW := Lib.hid (And.intro hrw hm)
            have HC0 := Lib.hid cr0
            clear hs hkl hrow hrw hm cr0
            go_upto_region 16 with (first
              | (with_reducible refine at_oper (.makeSlice 22 (.const (.int .i64 0)) (.tmp 56)) rfl ?_
                 refine wpList_makeCap rfl (.const (.int .i64 0)) (.tmp 56) 22 rfl app22 wr.heap.size (2 + 2 * m) rfl (congrArg (Value.int .i64) (by omega)) (by omega) (by omega) (Nat.le_refl _) ?_
                 intro w5 own5 gr5
                 have HO5 := Lib.hid own5
                 have HB5 := Lib.hid (below_grown (Below.refl wr.heap.size wr) gr5 (Nat.le_refl _) (fun k e => by cases e))
                 clear own5 gr5))
            have cbs := ((HP.out.step HB5.out).rq.blk.cell s).trans (via_get (by rw [HBN.out]; exact hsn))
            obtain ⟨bs, hbs⟩ : ∃ bs, block.getD s 0 = bs := ⟨_, rfl⟩
            rw [hbs] at cbs
            have HBS := Lib.hid hbs
            refine wp_region_rs (by kernel_rfl) 12 14 (fun W => W.cell? ⟨gb, s, none⟩ = some (vi bs)) (by decide +kernel) (fun _ _ d _ _ h => by cases d <;> exact h) cbs ?_
            clear cbs hbs ct cr1
            dsimp only [List.take]
            iterate 12 (refine ⟨?_, fun W hS => ?_, ?_⟩; rotate_left; (go_simp; first | done | rfl); simp only [Act.put, List.setIfInBounds_toArray, List.set_cons_zero, List.set_cons_succ])
            dsimp only [RdC, List.drop, Nat.reduceSub, wpListS]
            go_wp2_with fail
            dsimp only [segQ]
            have HB6 := Lib.hid ((HB5.out.alloc HB5.out.size (.cells #[.int .u8 ((bs : Int) % 256), .int .u8 ((bs : Int) / 256 % 256)] 5)).drew)
            refine ⟨((HP.out.step HB6.out).rq.blk.cell s).trans ?_, ?_⟩
            · rw [← HBS.out]; exact via_get (by rw [HBN.out]; exact hsn)
            go_wp2_with (first
              | (at_builtin
                 go_loud (refine wpList_append2 rfl (.tmp 58) (.tmp 70) rfl wr.heap.size (some ⟨wr.heap.size, 0, none⟩) 0 (2 + 2 * m) [] rfl (HO5.out.alloc _).drew _ bs _ rfl (Blk.new w5 5 _) (by omega) HB6.out.size ?_)
                 intro A6 c6 w6 own6 gr6
                 have HO6 := Lib.hid own6
                 have HB7 := Lib.hid (HB6.out.grown gr6 HB6.out.size (fun k e => by cases e; exact Nat.le_refl _))
                 clear own6 gr6))
            refine ⟨((HP.out.step HB7.out).rq.blk.cell s).trans ?_, ?_⟩
            · rw [← HBS.out]; exact via_get (by rw [HBN.out]; exact hsn)
            have ct := ((HP.out.step HB7.out).rq.tab.cell 257).trans hf
            have cr1 := cell_below (HP.out.step HB7.out).rq.below HC0.out
            generalize wr = ws at *
            have hmr : m = row.length := HRW.out.2.symm
            have HK0 := Lib.hid (show two bs ++ keyR block row = keyS block t.nxt s by unfold keyS; rw [HRW.out.1, HBS.out])
            clear hmr
            go_wp2_with fail
            go_loopw [15, 78] (fun s15 s78 wx => ∃ (j : Nat) (key : List Nat) (A' : Option Addr) (c' : Nat), j ≤ m ∧ s78 = vi j ∧ s15 = .slice A' key.length c' ∧ Below ws.heap.size ws wx ∧ Own wx ws.heap.size 5 A' key.length c' (u8s key) ∧ key ++ keyR block (row.drop j) = keyS block t.nxt s ∧ key.length ≤ 2 + 2 * j) (fun _ s78 _ => m - (intOf s78).toNat)
            case atStart => exact ⟨0, two bs, A6, c6, Nat.zero_le _, rfl, rfl, HB7.out, HO6.out, HK0.out, Nat.le_refl _⟩
            case round =>
              clear HK0 HO6 HB7 HB6 HB5 HO5 ct cr1
              obtain ⟨j, key, A', c', hj, rfl, rfl, hb, ho, hke, hkl⟩ := hrel
              have HB := Lib.hid hb
              have HO := Lib.hid ho
              have HKE := Lib.hid hke
              have hac' := ho.cap.1
              clear hb ho hke
              by_cases hjm : j < m
              · have d3 : decide ((j : Int) < m) = true := by simp; omega
                obtain ⟨adj, rfl, _, cj⟩ := (HRow.out.below (HP.out.step HB.out).rq.below).at_ hjm
                have hjr : j < row.length := by rw [HRW.out.2]; exact hjm
                obtain ⟨x, hx⟩ : ∃ x, row.getD j 0 = x := ⟨_, rfl⟩
                have hxn : x < n := by
                  rw [← hx, ← HN.out.1, ← HRW.out.1]
                  have h1 := HW.out.row (t.nxt.getD s []) (getD_mem' (by rw [HN.out.1]; exact hsn))
                  exact h1.2 _ (getD_mem' (by rw [HRW.out.1]; exact hjr))
                have hdr := getD_drop hjr
                rw [hx] at cj hdr
                have HD := Lib.hid hdr
                clear hjr hx hdr
                go_upto_region 20 with fail
                have cbs := ((HP.out.step HB.out).rq.blk.cell x).trans (via_get (by rw [HBN.out]; exact hxn))
                obtain ⟨y, hy⟩ : ∃ y, block.getD x 0 = y := ⟨_, rfl⟩
                rw [hy] at cbs
                have HY := Lib.hid hy
                refine wp_region_rs (by kernel_rfl) 12 14 (fun W => W.cell? ⟨gb, x, none⟩ = some (vi y)) (by decide +kernel) (fun _ _ d _ _ h => by cases d <;> exact h) cbs ?_
                clear cbs hy cj
                dsimp only [List.take]
                iterate 12 (refine ⟨?_, fun W hS => ?_, ?_⟩; rotate_left; (go_simp; first | done | rfl); simp only [Act.put, List.setIfInBounds_toArray, List.set_cons_zero, List.set_cons_succ])
                dsimp only [RdC, List.drop, Nat.reduceSub, wpListS]
                go_wp2_with fail
                dsimp only [segQ]
                have HB6 := Lib.hid ((HB.out.alloc HB.out.size (.cells #[.int .u8 ((y : Int) % 256), .int .u8 ((y : Int) / 256 % 256)] 5)).drew)
                refine ⟨((HP.out.step HB6.out).rq.blk.cell x).trans ?_, ?_⟩
                · rw [← HY.out]; exact via_get (by rw [HBN.out]; exact hxn)
                go_wp2_with (first
                  | (at_builtin
                     refine wpList_append2 rfl (.tmp 82) (.tmp 94) rfl ws.heap.size A' key.length c' key rfl (HO.out.alloc _).drew _ y _ rfl (Blk.new wr 5 _) (by omega) HB6.out.size ?_
                     intro A6 c6 w6 own6 gr6
                     have HO6 := Lib.hid own6
                     have HB7 := Lib.hid (HB6.out.grown gr6 HB6.out.size (fun k e => (HO.out.lt _ e).1))
                     clear own6 gr6))
                refine ⟨((HP.out.step HB7.out).rq.blk.cell x).trans ?_, ?_⟩
                · rw [← HY.out]; exact via_get (by rw [HBN.out]; exact hxn)
                go_wp2_with fail
                go_roundw
                case rel => exact ⟨j + 1, key ++ two y, A6, c6, by omega, by go_num, by simp [two_len], HB7.out, by simpa [two_len] using HO6.out, by
                  rw [← HKE.out, HD.out, ← HY.out]; simp [keyR], by rw [List.length_append, two_len]; omega⟩
                case measure => simp [intOf]; omega
              · have d3 : decide ((j : Int) < m) = false := by simp; omega
                obtain rfl : j = m := by omega
                have hkey : key = keyS block t.nxt s := by
                  have := HKE.out
                  rwa [List.drop_of_length_le (by rw [HRW.out.2]; exact Nat.le_refl _), show keyR block [] = [] from rfl, List.append_nil] at this
                have hlt : ∀ x ∈ key, x < 256 := by rw [hkey]; exact keyS_lt _ _ _
                have HKey := Lib.hid hkey
                obtain ⟨r, hr⟩ : ∃ r, idxK (⟨key, hlt⟩ : BL) ks 0 = r := ⟨_, rfl⟩
                have hr2 : idxK (keyS block t.nxt s) (keysOf ks) 0 = r := by rw [← hkey, ← idxK_sub key hlt, hr]
                have hil : i < l.length := by rw [HN.out.2.1]; exact hik
                have htk : l.take (i + 1) = l.take i ++ [s] := take_snoc_of (by rw [← HSL.out.1]; simp [hil])
                have hdk := getD_drop hil
                rw [HSL.out.1] at hdk
                have HR2 := Lib.hid (And.intro hr (And.intro hr2 (And.intro htk hdk)))
                have HP2 := Lib.hid (HP.out.step HB.out)
                have HKL := Lib.hid (show ks.length = reps.length by have := HRP.out.kl; rwa [keysOf, List.length_map] at this)
                have HNL := Lib.hid (show s < (via next).size by rw [via_size, HRP.out.nl]; exact hsn)
                clear hkey hr hr2 hil htk hdk
                cases r with
                | some id =>
                  go_wp2_with (first
                    | (with_reducible refine at_oper (.convert 22 9 (.tmp 99)) rfl ?_
                       refine wpList_toString rfl (.tmp 99) rfl rfl rfl (HO.out.sl (K := TT) fun _ _ => trivial) ?_)
                    | (with_reducible refine at_oper (.lookup 171 (.tmp 98) (.tmp 100) true) rfl ?_
                       refine wpList_lookup_id rfl (.tmp 98) (.tmp 100) 171 rfl kt_str Tryz.underlying171 rfl HP2.out.map ⟨key, hlt⟩ (show key.length ≤ 9223372036854775807 by omega) rfl ?_
                       intro cI hcI
                       obtain rfl := hcI id HR2.out.1
                       rw [HR2.out.1]
                       clear hcI)
                    | (with_reducible refine at_oper (.store 3 (.tmp 119) (.tmp 118)) rfl ?_
                       refine wpList_store_at rfl 3 (.tmp 119) (.tmp 118) rfl rfl (gm + 1) s (vi id) (via next) 3 rfl rfl HP2.out.nxt HNL.out size3 rfl ?_
                       intro w9 k9 o9
                       have HP9 := Lib.hid (HP2.out.seto k9 o9)
                       clear k9 o9))
                  go_roundw
                  case rel => exact ⟨i + 1, ks, next.set s id, reps, A, c, by omega, by go_num, rfl, HP9.out, by
                    rw [HR2.out.2.2.1]; exact HRP.out.hit hsn HSL.out.2 HR2.out.2.1, by
                    have := HE.out
                    rw [HR2.out.2.2.2, refPass, HR2.out.2.1] at this
                    exact this⟩
                  case measure => simp [intOf]; omega
                | none =>
                  have hnk : (⟨key, hlt⟩ : BL) ∉ ks := (idxK_none _ _ 0).1 HR2.out.1
                  have HNK := Lib.hid hnk
                  clear hnk
                  go_wp2_with (first
                    | (with_reducible refine at_oper (.convert 22 9 (.tmp 99)) rfl ?_
                       refine wpList_toString rfl (.tmp 99) rfl rfl rfl (HO.out.sl (K := TT) fun _ _ => trivial) ?_)
                    | (with_reducible refine at_oper (.convert 22 9 (.tmp 109)) rfl ?_
                       refine wpList_toString rfl (.tmp 109) rfl rfl rfl (HO.out.sl (K := TT) fun _ _ => trivial) ?_)
                    | (with_reducible refine at_oper (.lookup 171 (.tmp 98) (.tmp 100) true) rfl ?_
                       refine wpList_lookup_id rfl (.tmp 98) (.tmp 100) 171 rfl kt_str Tryz.underlying171 rfl HP2.out.map ⟨key, hlt⟩ (show key.length ≤ 9223372036854775807 by omega) rfl ?_
                       intro cI _
                       rw [HR2.out.1])
                    | (with_reducible refine at_oper (.mapUpdate 171 (.tmp 108) (.tmp 110) (.tmp 111)) rfl ?_
                       refine wpList_mapUpdate_id rfl (.tmp 108) (.tmp 110) (.tmp 111) 171 rfl kt_str Tryz.underlying171 rfl HP2.out.map ⟨key, hlt⟩ (show key.length ≤ 9223372036854775807 by omega) HNK.out rfl (by rw [HKL.out]; rfl) (by rw [HKL.out]; omega) ?_
                       intro w6 k6 g6
                       have HP6 := Lib.hid (HP2.out.put k6 g6)
                       clear k6 g6)
                    | (at_builtin
                       refine wpList_push rfl (.tmp 112) (.tmp 114) 64 rfl app64 (gm + 1 + 1) A reps.length c (vis reps) rfl (HP6.out.own.alloc _) _ (vi s) rfl ((Blk.new _ 3 _).cell 0) rfl (by omega) (by omega) (by have := HP6.out.nxt.lt; rw [World.size_alloc]; omega) ?_
                       intro A7 c7 w7 own7 g7 _
                       have HP7 := Lib.hid (HP6.out.push own7 g7)
                       clear own7 g7)
                    | (with_reducible refine at_oper (.store 3 (.tmp 119) (.tmp 118)) rfl ?_
                       refine wpList_store_at rfl 3 (.tmp 119) (.tmp 118) rfl rfl (gm + 1) s (vi reps.length) (via next) 3 rfl rfl HP7.out.nxt HNL.out size3 rfl ?_
                       intro w9 k9 o9
                       have HP9 := Lib.hid (HP7.out.seto k9 o9)
                       clear k9 o9))
                  go_roundw
                  case rel => exact ⟨i + 1, ks ++ [⟨key, hlt⟩], next.set s reps.length, reps ++ [s], A7, c7, by omega, by go_num, by simp, HP9.out, by
                    rw [HR2.out.2.2.1, keysOf_snoc]
                    have := HRP.out.miss hsn HSL.out.2
                    rw [← HKey.out] at this
                    exact this, by
                    have := HE.out
                    rw [HR2.out.2.2.2, refPass, HR2.out.2.1, ← HKey.out] at this
                    rw [keysOf_snoc]
                    exact this⟩
                  case measure => simp [intOf]; omega
          · have d2 : decide ((i : Int) < k) = false := by simp; omega
            obtain rfl : i = k := by omega
            have HPE := Lib.hid (show (next, reps) = PA by
              have := HE.out
              rwa [List.drop_of_length_le (by rw [HN.out.2.1]; exact Nat.le_refl _), refPass] at this)
            have HRP2 := Lib.hid (show RP block t.nxt t.nxt.length l (keysOf ks) next reps by
              have := HRP.out
              rwa [List.take_of_length_le (by rw [HN.out.2.1]; exact Nat.le_refl _), ← HN.out.1] at this)
            have HF1 := Lib.hid (show f = (f - 1) + 1 by have := HRF.out.pos; omega)
            by_cases hrc : reps.length = count
            · have d4 : ((reps.length : Int) == (count : Int)) = true := by simp; omega
              have HFin := Lib.hid (show (next, reps) = refine t l by
                rw [← HRL.out, HF1.out, refLoop, HPA.out, ← HPE.out, if_pos hrc])
              clear hrc
              go_wp2_with fail
              go_ret2
              rw [← HFin.out]
              exact ⟨gm + 1, A, c, rfl, by have := HP.out.lt; have := HP.out.rq.lt; omega, HP.out.nxt, ownsRow_mono HP.out.own (by have := HP.out.lt; have := HP.out.rq.lt; omega), HP.out.rq.below⟩
            · have d4 : ((reps.length : Int) == (count : Int)) = false := by simp; omega
              have HM := Lib.hid (ref_mono HRP2.out (by rw [HN.out.2.1]; omega) HRF.out)
              have HRF2 := Lib.hid (RF.next HRP2.out (by rw [HN.out.2.1]; omega) (HF1.out ▸ HRF.out) hrc)
              have HRL2 := Lib.hid (show refLoop t.nxt l (f - 1) next reps.length = refine t l by
                rw [← HRL.out, HF1.out, refLoop, HPA.out, ← HPE.out, if_neg hrc]; simp)
              have hrc' : count < reps.length := by have := HM.out; omega
              clear hrc
              go_wp2_with fail
              go_roundw
              case rel => exact ⟨gm + 1, next, reps.length, f - 1, rfl, rfl, ⟨HP.out.rq.below, HP.out.rq.tab, HP.out.nxt, by have := HP.out.lt; have := HP.out.rq.lt; omega⟩, HRF2.out, HRL2.out⟩
              case measure => simp [intOf]; omega
end Go.Proofs.YtjgkdfghjeodeaaGreatDoor
