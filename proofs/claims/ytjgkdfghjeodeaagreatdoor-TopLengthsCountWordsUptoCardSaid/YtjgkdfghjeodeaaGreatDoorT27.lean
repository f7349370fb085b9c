/- language.counts, language.Count. -/
import Derived.Test.YtjgkdfghjeodeaaGreatDoorT24
namespace Go.Proofs.YtjgkdfghjeodeaaGreatDoor
open Go.RowKit

theorem size64_ : (Tryz.prog.info? 64).map (·.size) = some 1 := by kernel_rfl
def outA (gs : List Nat) (N n : Nat) : Array Value := (gs.map (fun g => Value.slice (some ⟨g, 0, none⟩) n n) ++ List.replicate (N - gs.length) (Value.slice none 0 0)).toArray
theorem outA_size (gs : List Nat) (N n : Nat) (h : gs.length ≤ N) : (outA gs N n).size = N := by simp [outA]; omega
theorem outA_get (gs : List Nat) (N n j : Nat) (h : j < gs.length) : (outA gs N n)[j]? = some (.slice (some ⟨gs.getD j 0, 0, none⟩) n n) := by
  rw [outA, List.getElem?_toArray, List.getElem?_append_left (by simpa using h)]
  simp [h]
theorem outA_set (gs : List Nat) (N n g : Nat) (h : gs.length < N) : (outA gs N n).setIfInBounds gs.length (.slice (some ⟨g, 0, none⟩) n n) = outA (gs ++ [g]) N n := by
  unfold outA
  rw [List.setIfInBounds_toArray, List.set_append_right _ _ (by simp), List.length_map, Nat.sub_self, show N - gs.length = (N - (gs ++ [g]).length) + 1 by simp; omega, List.replicate_succ, List.set_cons_zero, List.map_append]
  simp
structure CT (w wr : World) (D : Array Value) (N n : Nat) (gs : List Nat) (rows : List (List Nat)) : Prop where
  below : Below w.heap.size w wr
  box : Blk wr w.heap.size 28 D
  out : Blk wr (w.heap.size + 1) 64 (outA gs N n)
  len : gs.length = rows.length
  le : gs.length ≤ N
  blk : ∀ j, j < gs.length → Blk wr (gs.getD j 0) 3 (via (rows.getD j []))
  inc : ∀ j, j < gs.length → w.heap.size + 1 < gs.getD j 0
  ne : ∀ i j, i < j → j < gs.length → gs.getD i 0 ≠ gs.getD j 0
  rl : ∀ j, j < gs.length → (rows.getD j []).length = n
section
variable {w wr w' : World} {D : Array Value} {N n : Nat} {gs : List Nat} {rows : List (List Nat)}
theorem CT.step (h : CT w wr D N n gs rows) (hb : Below wr.heap.size wr w') : CT w w' D N n gs rows :=
  ⟨h.below.trans (hb.mono h.below.size), h.box.old hb, h.out.old hb, h.len, h.le, fun j hj => (h.blk j hj).old hb, h.inc, h.ne, h.rl⟩
theorem getD_snocN {gs : List Nat} {g j : Nat} : (gs ++ [g]).getD j 0 = if j < gs.length then gs.getD j 0 else if j = gs.length then g else 0 := by
  by_cases h : j < gs.length
  · rw [if_pos h, List.getD_eq_getElem?_getD, List.getElem?_append_left h, ← List.getD_eq_getElem?_getD]
  · rw [if_neg h]
    by_cases h2 : j = gs.length
    · subst h2; simp
    · rw [if_neg h2, List.getD_eq_getElem?_getD, List.getElem?_eq_none (by simp; omega)]; rfl
theorem getD_snocL {rows : List (List Nat)} {r : List Nat} {j : Nat} : (rows ++ [r]).getD j [] = if j < rows.length then rows.getD j [] else if j = rows.length then r else [] := by
  by_cases h : j < rows.length
  · rw [if_pos h, List.getD_eq_getElem?_getD, List.getElem?_append_left h, ← List.getD_eq_getElem?_getD]
  · rw [if_neg h]
    by_cases h2 : j = rows.length
    · subst h2; simp
    · rw [if_neg h2, List.getD_eq_getElem?_getD, List.getElem?_eq_none (by simp; omega)]; rfl
/-- a row is made and put in its place -/
theorem CT.push (h : CT w wr D N n gs rows) (hN : gs.length < N) {w9 : World} {r : List Nat} (hr : r.length = n) (k : Blk w' wr.heap.size 3 (via r)) (hb : Below wr.heap.size wr w') (ko : Blk w9 (w.heap.size + 1) 64 ((outA gs N n).setIfInBounds gs.length (.slice (some ⟨wr.heap.size, 0, none⟩) n n))) (oo : Only (w.heap.size + 1) w' w9) :
    CT w w9 D N n (gs ++ [wr.heap.size]) (rows ++ [r]) := by
  have h1 := h.step hb
  have hlt := h.out.lt
  have hlts : ∀ j, j < gs.length → gs.getD j 0 < wr.heap.size := fun j hj => (h.blk j hj).lt
  rw [outA_set gs N n _ hN] at ko
  refine ⟨below_only h1.below oo (by omega), h1.box.only oo (by omega), ko, by simp [h.len], by simp; omega, fun j hj => ?_, fun j hj => ?_, fun i j hij hj => ?_, fun j hj => ?_⟩
  · rw [List.length_append, List.length_singleton] at hj
    rw [getD_snocN, getD_snocL, ← h.len]
    by_cases h2 : j < gs.length
    · rw [if_pos h2, if_pos h2]
      exact (h1.blk j h2).only oo (by have := h.inc j h2; omega)
    · rw [if_neg h2, if_neg h2, if_pos (by omega), if_pos (by omega)]
      exact k.only oo (by omega)
  · rw [List.length_append, List.length_singleton] at hj
    rw [getD_snocN]
    by_cases h2 : j < gs.length
    · rw [if_pos h2]; exact h.inc j h2
    · rw [if_neg h2, if_pos (by omega)]; omega
  · rw [List.length_append, List.length_singleton] at hj
    rw [getD_snocN, getD_snocN, if_pos (by omega)]
    by_cases h2 : j < gs.length
    · rw [if_pos h2]; exact h.ne i j hij h2
    · rw [if_neg h2, if_pos (by omega)]
      have := hlts i (by omega)
      omega
  · rw [List.length_append, List.length_singleton] at hj
    rw [getD_snocL, ← h.len]
    by_cases h2 : j < gs.length
    · rw [if_pos h2]; exact h.rl j h2
    · rw [if_neg h2, if_pos (by omega)]; exact hr
/-- the last row turns -/
theorem CT.setl {r r' : List Nat} (h : CT w wr D N n gs (rows ++ [r])) (hr : r'.length = n) (k : Blk w' (gs.getD rows.length 0) 3 (via r')) (ho : Only (gs.getD rows.length 0) wr w') : CT w w' D N n gs (rows ++ [r']) := by
  have hl := h.len
  rw [List.length_append, List.length_singleton] at hl
  have hi := h.inc rows.length (by omega)
  refine ⟨below_only h.below ho (by omega), h.box.only ho (by omega), h.out.only ho (by omega), by simp [hl], h.le, fun j hj => ?_, h.inc, h.ne, fun j hj => ?_⟩
  · have hb := h.blk j hj
    rw [getD_snocL] at hb ⊢
    by_cases h2 : j < rows.length
    · rw [if_pos h2] at hb ⊢
      exact hb.only ho (h.ne j rows.length h2 (by omega))
    · have : j = rows.length := by omega
      subst this
      rw [if_neg h2, if_pos rfl]
      exact k
  · have hb := h.rl j hj
    rw [getD_snocL] at hb ⊢
    by_cases h2 : j < rows.length
    · rw [if_pos h2] at hb ⊢; exact hb
    · rw [if_neg h2, if_pos (by omega)]; exact hr
end
theorem CT.last {w wr : World} {D : Array Value} {N n : Nat} {gs : List Nat} {rows : List (List Nat)} {r : List Nat} (h : CT w wr D N n gs (rows ++ [r])) : Blk wr (gs.getD rows.length 0) 3 (via r) ∧ r.length = n := by
  have hl := h.len
  rw [List.length_append, List.length_singleton] at hl
  have h1 := h.blk rows.length (by omega)
  have h2 := h.rl rows.length (by omega)
  rw [getD_snocL, if_neg (by omega), if_pos rfl] at h1 h2
  exact ⟨h1, h2⟩
theorem mid_set (l : List Nat) (s n x : Nat) (h : s < n) (hl : l.length = n) (hx : l.getD s 0 = x) : (l.take s ++ List.replicate (n - s) 0).set s x = l.take (s + 1) ++ List.replicate (n - (s + 1)) 0 := by
  rw [List.set_append_right _ _ (by rw [List.length_take]; omega), List.length_take, Nat.min_eq_left (by omega), Nat.sub_self, show n - s = (n - (s + 1)) + 1 by omega, List.replicate_succ, List.set_cons_zero]
  have hg : l[s]? = some x := by
    rw [List.getD_eq_getElem?_getD, List.getElem?_eq_getElem (by omega)] at hx
    rw [List.getElem?_eq_getElem (by omega), ← hx]; rfl
  rw [take_snoc_of hg, List.append_assoc]
  rfl

set_option maxRecDepth 100000 in
set_option maxHeartbeats 8000000 in
theorem counts_c (K : Nat → Prop) (v : Value) (d : Dfa) (N : Nat) (w : World) (hd : RD w K v d) (hv : VD d) (hN : N ≤ 4) : Calls Tryz.prog 22 #[v, vi N] w
    fun e w' => ∃ A c, e = .returned (.slice A (N + 1) c) ∧ RR w' (fun k => w.heap.size ≤ k) A (N + 1) c ((List.range (N + 1)).map (cntAt d)) ∧ Below w.heap.size w w' := by
  obtain ⟨A1, A2, A3, c1, c2, c3, rfl, hC, hNx, hL⟩ := hd.open_
  obtain ⟨m, hm⟩ : ∃ m, d.cls.length = m := ⟨_, rfl⟩
  obtain ⟨n, hn⟩ : ∃ n, d.nxt.length = n := ⟨_, rfl⟩
  have hac := hv.acc
  rw [hn] at hac
  rw [hm] at hC
  rw [hn] at hNx
  rw [hac] at hL
  rw [hm, hn, hac]
  have h1 : 1 ≤ n := by rw [← hn]; exact hv.pos
  have h2 : n ≤ 64 := by rw [← hn]; exact hv.top
  have h3 : m ≤ 256 := by rw [← hm]; exact hv.ctop
  have HC := Lib.hid hC
  have HN := Lib.hid hNx
  have HL := Lib.hid hL
  have HV := Lib.hid (And.intro hv (And.intro hm hn))
  clear hd hC hNx hL hv hac hm hn
  go_enter Tryz.func22, Tryz.ntmps22
  go_upto_region 2 with (first
    | (with_reducible refine at_oper (.box 28 (.tmp 0)) rfl ?_
       refine wpList_box_rowG w.heap.size rfl rfl 28 (.tmp 0) rfl #[.slice A1 m c1, .slice A2 n c2, .slice A3 n c3] rfl ?_
       intro w1 k1 b1 s1)
    | (with_reducible refine at_oper (.makeSlice 25 (.tmp 11) (.tmp 11)) rfl ?_
       refine wpList_makeFullG (w.heap.size + 1) s1 rfl (.tmp 11) (.tmp 11) 25 rfl (.slice none 0 0) Tryz.underlying25 info64 rfl (N + 1) rfl rfl (by omega) (by omega) ?_
       intro w2 k2 b2 s2))
  have H2 := Lib.hid (show CT w w2 #[.slice A1 m c1, .slice A2 n c2, .slice A3 n c3] (N + 1) n [] ((List.range 0).map (cntAt d)) from
    ⟨b1.trans (b2.mono (by omega)), k1.old (s1 ▸ b2), by simpa [outA] using k2, rfl, by simp, fun j hj => by simp at hj, fun j hj => by simp at hj, fun i j _ hj => by simp at hj, fun j hj => by simp at hj⟩)
  clear k1 b1 s1 k2 b2 s2
  obtain ⟨D, hD⟩ : ∃ D : Array Value, #[Value.slice A1 m c1, .slice A2 n c2, .slice A3 n c3] = D := ⟨_, rfl⟩
  rw [hD] at H2
  have HD := Lib.hid hD
  clear hD
  go_wp2_with fail
  go_loopw [15] (fun s15 wr => ∃ (i : Nat) (gs : List Nat), i ≤ N + 1 ∧ s15 = vi i ∧ CT w wr D (N + 1) n gs ((List.range i).map (cntAt d))) (fun s15 _ => N + 1 - (intOf s15).toNat)
  case atStart => exact ⟨0, [], Nat.zero_le _, rfl, H2.out⟩
  case round =>
    clear H2
    obtain ⟨i, gs, hi, rfl, hT⟩ := hrel
    have hgl : gs.length = i := by have := hT.len; simpa using this
    have HT := Lib.hid hT
    obtain ⟨f1, f2, f3⟩ := cells28 (HD.out ▸ hT.box)
    clear hT
    by_cases hlt : i < N + 1
    · have d1 : decide ((i : Int) < (N : Int) + 1) = true := by simp; omega
      go_upto_region 6 with (first
        | (with_reducible refine at_oper (.makeSlice 64 (.tmp 22) (.tmp 22)) rfl ?_
           refine wpList_makeFullG wr.heap.size rfl rfl (.tmp 22) (.tmp 22) 64 rfl (.int .i64 0) Tryz.underlying64 info3 rfl n rfl rfl (by omega) (by omega) ?_
           intro w3 k3 b3 s3
           rw [via_rep] at k3
           have H3 := Lib.hid (And.intro k3 b3)
           clear k3 b3 s3)
        | (with_reducible refine at_oper (.store 64 (.tmp 24) (.tmp 23)) rfl ?_
           refine wpList_store_at rfl 64 (.tmp 24) (.tmp 23) rfl rfl (w.heap.size + 1) i (.slice (some ⟨wr.heap.size, 0, none⟩) n n) _ 64 rfl rfl (HT.out.out.old H3.out.2) (by rw [outA_size _ _ _ (by omega)]; omega) size64_ rfl ?_
           intro w4 k4 o4
           rw [← hgl] at k4
           have H4 := Lib.hid (HT.out.push (by omega) (List.length_replicate) H3.out.1 H3.out.2 k4 o4)
           clear k4 o4))
      clear f1 f2 f3
      have hg2 : (gs ++ [wr.heap.size]).length = i + 1 := by simp [hgl]
      have hgi : (gs ++ [wr.heap.size]).getD i 0 = wr.heap.size := by rw [getD_snocN, if_neg (by omega), if_pos hgl.symm]
      obtain ⟨gs', hgs'⟩ : ∃ g, gs ++ [wr.heap.size] = g := ⟨_, rfl⟩
      rw [hgs'] at H4 hg2 hgi
      generalize wr.heap.size = g at *
      have HG := Lib.hid (And.intro hg2 hgi)
      clear hg2 hgi hgs' hgl H3 HT
      obtain ⟨f1, f2, f3⟩ := cells28 (HD.out ▸ H4.out.box)
      obtain ⟨fin, hfin⟩ : ∃ fin, cntAt d i = fin := ⟨_, rfl⟩
      have hfl : fin.length = n := by rw [← hfin, cntAt_len]; exact HV.out.2.2
      have HF := Lib.hid (And.intro hfin hfl)
      clear hfin hfl
      go_wp2_with fail
      clear f1 f2 f3
      go_loopw [28] (fun s28 wx => ∃ (s : Nat), s ≤ n ∧ s28 = vi s ∧ CT w wx D (N + 1) n gs' ((List.range i).map (cntAt d) ++ [fin.take s ++ List.replicate (n - s) 0])) (fun s28 _ => n - (intOf s28).toNat)
      case atStart => exact ⟨0, Nat.zero_le _, rfl, by simpa using H4.out⟩
      case round =>
        clear H4
        obtain ⟨s, hs, rfl, hT⟩ := hrel
        have HT := Lib.hid hT
        obtain ⟨f1, f2, f3⟩ := cells28 (HD.out ▸ hT.box)
        have hro : wr.cell? ⟨w.heap.size + 1, i, none⟩ = some (.slice (some ⟨g, 0, none⟩) n n) := (hT.out.cell i).trans ((outA_get gs' (N + 1) n i (by rw [HG.out.1]; omega)).trans (by rw [HG.out.2]))
        have hla := hT.last
        rw [List.length_map, List.length_range, HG.out.2] at hla
        have HLa := Lib.hid hla
        clear hT hla
        by_cases hsn : s < n
        · have d2 : decide ((s : Int) < n) = true := by simp; omega
          by_cases hi0 : i = 0
          · have d3 : ((i : Int) == 0) = true := by simp [hi0]
            obtain ⟨aa, rfl, _, ca⟩ := (HL.out.below HT.out.below).at_ hsn
            obtain ⟨x, hx⟩ : ∃ x, d.acc.getD s false = x := ⟨_, rfl⟩
            rw [hx] at ca
            have HX := Lib.hid (show fin.getD s 0 = if x then 1 else 0 by
              rw [← HF.out.1, hi0, cntAt, cntZero, map_range_getD, if_pos (by rw [HV.out.2.2]; exact hsn), hx])
            clear hx
            have hro0 : wr.cell? ⟨w.heap.size + 1, 0, none⟩ = some (.slice (some ⟨g, 0, none⟩) n n) := by have h := hro; rw [hi0] at h; exact h
            cases x with
            | true =>
              go_wp2_with (first
                | (with_reducible refine at_oper (.store 3 (.tmp 42) _) rfl ?_
                   refine wpList_store_at rfl 3 (.tmp 42) _ rfl rfl g s (vi 1) _ 3 rfl rfl HLa.out.1 (by rw [via_size, HLa.out.2]; exact hsn) size3 rfl ?_
                   intro w5 k5 o5
                   have H5 := Lib.hid (And.intro k5 o5)
                   clear k5 o5))
              go_roundw
              case rel =>
                have k5 := H5.out.1
                rw [via_set, mid_set fin s n 1 hsn HF.out.2 HX.out] at k5
                exact ⟨s + 1, by omega, by go_num, HT.out.setl (r' := fin.take (s + 1) ++ List.replicate (n - (s + 1)) 0) (by rw [List.length_append, List.length_take, List.length_replicate, HF.out.2]; omega) (by rw [List.length_map, List.length_range, HG.out.2]; exact k5) (by rw [List.length_map, List.length_range, HG.out.2]; exact H5.out.2)⟩
              case measure => simp [intOf]; omega
            | false =>
              go_wp2_with fail
              go_roundw
              case rel =>
                have h0 : fin.getD s 0 = 0 := HX.out
                have e := mid_set fin s n 0 hsn HF.out.2 h0
                have e2 : (fin.take s ++ List.replicate (n - s) 0).set s 0 = fin.take s ++ List.replicate (n - s) 0 := by
                  rw [List.set_append_right _ _ (by rw [List.length_take]; omega), List.length_take, HF.out.2, Nat.min_eq_left (by omega), Nat.sub_self, show n - s = (n - (s + 1)) + 1 by omega, List.replicate_succ, List.set_cons_zero]
                exact ⟨s + 1, by omega, by go_num, by rw [← e, e2]; exact HT.out⟩
              case measure => simp [intOf]; omega
          · have d3 : ((i : Int) == 0) = false := by simp [hi0]
            obtain ⟨j, hj⟩ : ∃ j, i = j + 1 := ⟨i - 1, by omega⟩
            obtain ⟨prev, hprev⟩ : ∃ p, cntAt d j = p := ⟨_, rfl⟩
            have hpl : prev.length = n := by rw [← hprev, cntAt_len]; exact HV.out.2.2
            have hpb : ∀ t, prev.getD t 0 ≤ 4294967296 := fun t => by
              rw [← hprev]
              have a1 := cntAt_le HV.out.1 j t
              have a2 : 256 ^ j ≤ 256 ^ 4 := Nat.pow_le_pow_right (by decide) (by omega)
              have a3 : (256 : Nat) ^ 4 = 4294967296 := by decide
              omega
            obtain ⟨gp, hgp⟩ : ∃ gp, gs'.getD j 0 = gp := ⟨_, rfl⟩
            obtain ⟨nx, hnx⟩ : ∃ nx, d.nxt.getD s [] = nx := ⟨_, rfl⟩
            have hnr := HV.out.1.row (d.nxt.getD s []) (getD_mem' (by rw [HV.out.2.2]; exact hsn))
            rw [hnx, HV.out.2.1, HV.out.2.2] at hnr
            have HP := Lib.hid (And.intro hprev (And.intro hpl (And.intro hpb (And.intro hgp (And.intro hnx hnr)))))
            have HFs := Lib.hid (show fin.getD s 0 = cntCell prev d.cls nx 0 by
              rw [← HF.out.1, hj, cntAt, cntRow, map_range_getD, if_pos (by rw [HV.out.2.2]; exact hsn), hprev, hnx])
            have HJ := Lib.hid hj
            clear hro f2 f3 hprev hpl hpb hgp hnx hnr hj
            go_wp2_with fail
            clear f1
            go_loopw [46] (fun s46 wx => ∃ (k o : Nat), k ≤ m ∧ s46 = vi k ∧ o ≤ mostW + 1 ∧ cntCell prev (d.cls.drop k) (nx.drop k) o = cntCell prev d.cls nx 0 ∧ CT w wx D (N + 1) n gs' ((List.range i).map (cntAt d) ++ [fin.take s ++ o :: List.replicate (n - (s + 1)) 0])) (fun s46 _ => m - (intOf s46).toNat)
            case atStart =>
              refine ⟨0, 0, Nat.zero_le _, rfl, by omega, rfl, ?_⟩
              have h := HT.out
              rw [show n - s = (n - (s + 1)) + 1 by omega, List.replicate_succ] at h
              exact h
            case round =>
              clear HT HLa
              obtain ⟨k, o, hk, rfl, ho, hcell, hT⟩ := hrel
              have HT := Lib.hid (And.intro hT hcell)
              clear hT hcell
              by_cases hkm : k < m
              · have d4 : decide ((k : Int) < m) = true := by simp; omega
                have hkc : k < d.cls.length := by rw [HV.out.2.1]; exact hkm
                have hkx : k < nx.length := by rw [HP.out.2.2.2.2.2.1]; exact hkm
                obtain ⟨ac, rfl, _, cc⟩ := (HC.out.below HT.out.1.below).at_ hkm
                obtain ⟨c, hc⟩ : ∃ c, d.cls.getD k 0 = c := ⟨_, rfl⟩
                rw [hc] at cc
                have hdc : d.cls.drop k = c :: d.cls.drop (k + 1) := drop_cons_of (by rw [← hc, List.getD_eq_getElem?_getD, List.getElem?_eq_getElem hkc]; rfl)
                obtain ⟨t, ht⟩ : ∃ t, nx.getD k 0 = t := ⟨_, rfl⟩
                have hdx : nx.drop k = t :: nx.drop (k + 1) := drop_cons_of (by rw [← ht, List.getD_eq_getElem?_getD, List.getElem?_eq_getElem hkx]; rfl)
                have htn : t < n := by rw [← ht]; exact HP.out.2.2.2.2.2.2 _ (getD_mem' hkx)
                have HCl := Lib.hid cc
                have HDr := Lib.hid (show cntCell prev (d.cls.drop (k + 1)) (nx.drop (k + 1)) (min (o + sizeC c * prev.getD t 0) (mostW + 1)) = cntCell prev d.cls nx 0 by
                  have h := HT.out.2
                  rw [hdc, hdx, cntCell] at h
                  exact h)
                have hsc : sizeC c ≤ 256 := bytesC_len c
                have hpt := HP.out.2.2.1 t
                clear cc hdc hdx hc
                go_upto_region 15 with (first
                  | (with_reducible refine at_oper (.load 56 (.tmp 49)) rfl ?_
                     refine wpList_load_class rfl (.tmp 49) rfl _ rfl c HCl.out ?_)
                  | (with_reducible refine at_oper (.alloc 56) rfl ?_
                     refine wpList_alloc_rowG wr.heap.size rfl rfl 56 rfl _ zero56 ?_
                     intro w5 k5 b5 s5)
                  | (with_reducible refine at_oper (.store 56 (.tmp 9) (.tmp 50)) rfl ?_
                     refine wpList_store_blk rfl 56 (.tmp 9) (.tmp 50) rfl rfl wr.heap.size (ccells c) _ 56 rfl rfl k5 size56 rfl (encC_one c) ?_
                     intro w6 k6 o6
                     have H6 := Lib.hid (And.intro (HT.out.1.step (below_only b5 o6 (Nat.le_refl _))) k6)
                     clear k5 k6 b5 o6 s5))
                generalize wr.heap.size = g9 at *
                obtain ⟨CC, hCC⟩ : ∃ CC, ccells c = CC := ⟨_, rfl⟩
                have hCs : CC.size = 4 := by rw [← hCC]; rfl
                have H6 := Lib.hid (hCC ▸ H6.out)
                have HCC := Lib.hid (show Value.agg CC = encC c by rw [← hCC]; rfl)
                clear hCC
                have hrow : (fin.take s ++ o :: List.replicate (n - (s + 1)) 0).length = n := by
                  rw [List.length_append, List.length_take, List.length_cons, List.length_replicate, HF.out.2]; omega
                have hro : w6.cell? ⟨w.heap.size + 1, i, none⟩ = some (.slice (some ⟨g, 0, none⟩) n n) := (H6.out.1.out.cell i).trans ((outA_get gs' (N + 1) n i (by rw [HG.out.1]; omega)).trans (by rw [HG.out.2]))
                have hrp : w6.cell? ⟨w.heap.size + 1, j, none⟩ = some (.slice (some ⟨gp, 0, none⟩) n n) := (H6.out.1.out.cell j).trans ((outA_get gs' (N + 1) n j (by rw [HG.out.1]; have := HJ.out; omega)).trans (by rw [HP.out.2.2.2.1]))
                have hla := H6.out.1.last
                rw [List.length_map, List.length_range, HG.out.2] at hla
                have HLa := Lib.hid hla
                have hgs : w6.cell? ⟨g, s, none⟩ = some (vi o) := (hla.1.cell s).trans ((via_get (by rw [hrow]; exact hsn)).trans (by
                  rw [List.getD_eq_getElem?_getD, List.getElem?_append_right (by rw [List.length_take]; omega), List.length_take, HF.out.2, Nat.min_eq_left (by omega), Nat.sub_self]; rfl))
                obtain ⟨e1, e2, e3⟩ := cells28 (HD.out ▸ H6.out.1.box)
                obtain ⟨a2, Ar, cr, rfl, _, ha2, hrn⟩ := (HN.out.below H6.out.1.below).at_ hsn
                rw [HP.out.2.2.2.2.1, HP.out.2.2.2.2.2.1] at ha2 hrn
                obtain ⟨ar, rfl, _, hak⟩ := hrn.at_ hkm
                rw [ht] at hak
                have hbp : w6.cell? ⟨gp, t, none⟩ = some (vi (prev.getD t 0)) := by
                  have hb := H6.out.1.blk j (by rw [HG.out.1]; have := HJ.out; omega)
                  rw [HP.out.2.2.2.1, getD_snocL, List.length_map, List.length_range, if_pos (by have := HJ.out; omega), List.getD_eq_getElem?_getD, List.getElem?_map, List.getElem?_range (by have := HJ.out; omega)] at hb
                  have hb2 : Blk w6 gp 3 (via prev) := by rw [← HP.out.1]; exact hb
                  exact (hb2.cell t).trans (via_get (by rw [HP.out.2.1]; exact htn))
                obtain ⟨pv, hpv⟩ : ∃ pv, prev.getD t 0 = pv := ⟨_, rfl⟩
                rw [hpv] at hbp hpt
                obtain ⟨sz, hsz⟩ : ∃ sz, sizeC c = sz := ⟨_, rfl⟩
                rw [hsz] at hsc
                have HPv := Lib.hid (And.intro hpv (And.intro hsz hrow))
                have hS : ∀ W, Below w6.heap.size w6 W → W.cell? ⟨w.heap.size + 1, i, none⟩ = some (.slice (some ⟨g, 0, none⟩) n n) ∧ W.cell? ⟨g, s, none⟩ = some (vi o) ∧ Blk W g9 56 CC ∧ W.cell? ⟨w.heap.size + 1, j, none⟩ = some (.slice (some ⟨gp, 0, none⟩) n n) ∧ W.cell? ⟨w.heap.size, 1, none⟩ = some (.slice (some a2) n c2) ∧ W.cell? (a2.add s) = some (.slice (some ar) m cr) ∧ W.cell? (ar.add k) = some (vi t) ∧ W.cell? ⟨gp, t, none⟩ = some (vi pv) := fun W hW =>
                  ⟨cell_below hW hro, cell_below hW hgs, H6.out.2.old hW, cell_below hW hrp, cell_below hW e2, cell_below hW ha2, cell_below hW hak, cell_below hW hbp⟩
                have HSS := Lib.hid hS
                have HS0 := Lib.hid (hS _ (Below.refl _ _).drew)
                have hij : (i : Int) - 1 = (j : Int) := by have := HJ.out; omega
                have hjn : j < N + 1 := by have := HJ.out; omega
                have hwj : IntKind.i64.wrap (j : Int) = (j : Int) := i64_wrap _ (by omega)
                clear hla hrow hro hrp hgs e1 e2 e3 ha2 hrn hak hbp hS hpv hsz ht
                refine wp_region_wq (by kernel_rfl) [(0, true), (1, true), (2, true), (3, true), (4, true), (5, true), (6, true), (7, true), (8, true), (9, true), (10, true), (11, true), (12, true), (14, true), (15, true), (16, true), (17, true), (18, true), (19, true), (20, true), (21, true), (22, true), (23, true), (24, true), (25, true), (26, true), (27, true), (28, true), (13, false), (29, true), (30, true), (31, true), (32, true), (33, false)] 33 (fun W => W.cell? ⟨w.heap.size + 1, i, none⟩ = some (.slice (some ⟨g, 0, none⟩) n n) ∧ W.cell? ⟨g, s, none⟩ = some (vi o) ∧ Blk W g9 56 CC ∧ W.cell? ⟨w.heap.size + 1, j, none⟩ = some (.slice (some ⟨gp, 0, none⟩) n n) ∧ W.cell? ⟨w.heap.size, 1, none⟩ = some (.slice (some a2) n c2) ∧ W.cell? (a2.add s) = some (.slice (some ar) m cr) ∧ W.cell? (ar.add k) = some (vi t) ∧ W.cell? ⟨gp, t, none⟩ = some (vi pv)) (by decide +kernel) (fun _ _ d _ _ h => by cases d <;> exact h) HS0.out ?_
                iterate 12 (refine wq_r (by simp only [List.getElem?_toArray, List.getElem?_cons_succ, List.getElem?_cons_zero]; rfl) ?_ (fun W hS => ?_) ?_; rotate_left; (focus (obtain ⟨q1, q2, q3, q4, q5, q6, q7, q8⟩ := hS; clear q3; go_simp; first | done | rfl | rw [if_pos (by omega)])); simp only [Act.put, List.setIfInBounds_toArray, List.set_cons_zero, List.set_cons_succ])
                refine wq_r (by simp only [List.getElem?_toArray, List.getElem?_cons_succ, List.getElem?_cons_zero]; rfl) (.agg CC) (fun W hS => ?_) ?_
                · refine run_load_blk 56 (.tmp 9) ?_ g9 ?_ 56 CC _ hS.2.2.1 Tryz.underlying56 rfl (by rw [hCs]; exact size56) <;> rfl
                simp only [Act.put, List.setIfInBounds_toArray, List.set_cons_zero, List.set_cons_succ]
                iterate 15 (refine wq_r (by simp only [List.getElem?_toArray, List.getElem?_cons_succ, List.getElem?_cons_zero]; rfl) ?_ (fun W hS => ?_) ?_; rotate_left; (focus (obtain ⟨q1, q2, q3, q4, q5, q6, q7, q8⟩ := hS; clear q3; go_simp; first | done | rfl | rw [if_pos (by omega)])); simp only [Act.put, List.setIfInBounds_toArray, List.set_cons_zero, List.set_cons_succ])
                refine wq_c (by simp only [List.getElem?_toArray, List.getElem?_cons_succ, List.getElem?_cons_zero]; rfl) ?_
                have HSz := Lib.hid (show ∀ W, Calls Tryz.prog 51 #[.agg CC] W fun e w' => e = .returned (vi sz) ∧ Below W.heap.size W w' from fun W => by
                  rw [HCC.out, ← HPv.out.2.1]
                  exact size_c c W)
                go_wp2_with (first
                  | (go_at_call 51
                     refine (HSz.out w6.drew).mono ?_
                     rintro e w7 ⟨rfl, hb⟩
                     have H7 := Lib.hid (show Below w6.heap.size w6 w7 from (Below.refl _ _).drew.trans hb)
                     clear hb))
                have hb7 := H7.out
                first
                  | refine ⟨HSS.out _ hb7, ?_⟩
                  | (dsimp only [segQ]
                     refine ⟨fun _ => HSS.out _ hb7, ?_⟩)
                have hq1 : sz * pv ≤ 256 * 4294967296 := Nat.mul_le_mul hsc hpt
                have hq2 : IntKind.i64.wrap ((sz : Int) * (pv : Int)) = ((sz * pv : Nat) : Int) := by
                  rw [← Int.natCast_mul]
                  exact i64_wrap _ (by omega)
                obtain ⟨q, hq⟩ : ∃ q, sz * pv = q := ⟨_, rfl⟩
                rw [hq] at hq1 hq2
                have HQ := Lib.hid hq
                have ho2 : o ≤ 1099511627777 := ho
                clear hq
                refine wq_r (by simp only [List.getElem?_toArray, List.getElem?_cons_succ, List.getElem?_cons_zero]; rfl) (vi q) (fun W hS => ?_) ?_
                · clear hS
                  go_simp
                clear hq2
                simp only [Act.put, List.setIfInBounds_toArray, List.set_cons_zero, List.set_cons_succ]
                refine wq_r (by simp only [List.getElem?_toArray, List.getElem?_cons_succ, List.getElem?_cons_zero]; rfl) ?_ (fun W hS => ?_) ?_
                rotate_left
                · clear hS
                  go_simp
                  rfl
                simp only [Act.put, List.setIfInBounds_toArray, List.set_cons_zero, List.set_cons_succ]
                have hmn : min (IntKind.i64.wrap ((o : Int) + (q : Int))) 1099511627777 = ((min (o + q) 1099511627777 : Nat) : Int) := by
                  rw [i64_wrap _ (by omega)]; omega
                obtain ⟨r, hr⟩ : ∃ r, min (o + q) 1099511627777 = r := ⟨_, rfl⟩
                rw [hr] at hmn
                have hr2 : r ≤ 1099511627777 := by omega
                have HRr := Lib.hid hr
                clear hr
                refine wq_r (by simp only [List.getElem?_toArray, List.getElem?_cons_succ, List.getElem?_cons_zero]; rfl) (vi r) (fun W hS => ?_) ?_
                · clear hS
                  go_simp
                clear hmn
                simp only [Act.put, List.setIfInBounds_toArray, List.set_cons_zero, List.set_cons_succ]
                refine wq_r (by simp only [List.getElem?_toArray, List.getElem?_cons_succ, List.getElem?_cons_zero]; rfl) ?_ (fun W hS => ?_) ?_
                rotate_left
                · clear hS
                  go_simp
                  rfl
                simp only [Act.put, List.setIfInBounds_toArray, List.set_cons_zero, List.set_cons_succ]
                refine wq_c (by simp only [List.getElem?_toArray, List.getElem?_cons_succ, List.getElem?_cons_zero]; rfl) ?_
                have HT7 := Lib.hid (H6.out.1.step hb7)
                go_wp2_with (first
                  | (with_reducible refine at_oper (.store 3 (.tmp 83) (.tmp 82)) rfl ?_
                     refine wpList_store_at rfl 3 (.tmp 83) (.tmp 82) rfl rfl g s (vi r) _ 3 rfl rfl (HLa.out.1.old hb7) (by rw [via_size, HPv.out.2.2]; exact hsn) size3 rfl ?_
                     intro w8 k8 o8
                     have H8 := Lib.hid (And.intro k8 o8)
                     clear k8 o8))
                first
                  | refine wq_e ?_
                  | (dsimp only [segQ]
                     refine ⟨fun h => absurd h (by decide), wq_e ?_⟩)
                go_wp2_with fail
                go_roundw
                case rel =>
                  have k8 := H8.out.1
                  rw [via_set, List.set_append_right _ _ (by rw [List.length_take]; omega), List.length_take, HF.out.2, Nat.min_eq_left (by omega), Nat.sub_self, List.set_cons_zero] at k8
                  refine ⟨k + 1, r, by omega, by go_num, hr2, ?_, HT7.out.setl (r' := fin.take s ++ r :: List.replicate (n - (s + 1)) 0) (by rw [List.length_append, List.length_take, List.length_cons, List.length_replicate, HF.out.2]; omega) (by rw [List.length_map, List.length_range, HG.out.2]; exact k8) (by rw [List.length_map, List.length_range, HG.out.2]; exact H8.out.2)⟩
                  have h := HDr.out
                  rw [HPv.out.2.1, HPv.out.1, HQ.out] at h
                  rw [← HRr.out]
                  exact h
                case measure => simp [intOf]; omega
              · have d4 : decide ((k : Int) < m) = false := by simp; omega
                have HE := Lib.hid (show fin.getD s 0 = o by
                  have h := HT.out.2
                  rw [List.drop_of_length_le (by rw [HV.out.2.1]; omega), cntCell] at h
                  · rw [HFs.out, ← h]
                  · simp)
                go_wp2_with fail
                go_roundw
                case rel =>
                  have h := HT.out.1
                  have e : fin.take s ++ o :: List.replicate (n - (s + 1)) 0 = fin.take (s + 1) ++ List.replicate (n - (s + 1)) 0 := by
                    have hg : fin[s]? = some o := by
                      have := HE.out
                      rw [List.getD_eq_getElem?_getD, List.getElem?_eq_getElem (by rw [HF.out.2]; exact hsn)] at this
                      rw [List.getElem?_eq_getElem (by rw [HF.out.2]; exact hsn), ← this]; rfl
                    rw [take_snoc_of hg, List.append_assoc]; rfl
                  rw [e] at h
                  exact ⟨s + 1, by omega, by go_num, h⟩
                case measure => simp [intOf]; omega
        · have d2 : decide ((s : Int) < n) = false := by simp; omega
          have HE := Lib.hid (show CT w wr D (N + 1) n gs' ((List.range (i + 1)).map (cntAt d)) by
            have h := HT.out
            rw [show s = n by omega, Nat.sub_self, List.replicate_zero, List.append_nil, List.take_of_length_le (by rw [HF.out.2]; exact Nat.le_refl _)] at h
            rw [List.range_succ, List.map_append, List.map_cons, List.map_nil, HF.out.1]
            exact h)
          go_wp2_with fail
          go_roundw
          case rel => exact ⟨i + 1, gs', by omega, by go_num, HE.out⟩
          case measure => simp [intOf]; omega
    · have d1 : decide ((i : Int) < (N : Int) + 1) = false := by simp; omega
      have hiN : i = N + 1 := by omega
      have HE := Lib.hid (show CT w wr D (N + 1) n gs ((List.range (N + 1)).map (cntAt d)) by have h := HT.out; rw [show List.range i = List.range (N + 1) by rw [hiN]] at h; exact h)
      have HGl := Lib.hid (hgl.trans hiN)
      have HNn := Lib.hid HV.out.2.2
      clear hgl hiN
      go_wp2_with fail
      go_ret
      refine ⟨_, _, rfl, ⟨by simp, Nat.le_refl _, by omega, by omega, gs.map (fun g => Value.slice (some ⟨g, 0, none⟩) n n), ?_, by rw [List.length_map]; exact HGl.out, fun j u hu => ?_⟩, HE.out.below⟩
      · intro j u hu
        have hj : j < gs.length := by have := (List.getElem?_eq_some_iff.1 hu).1; simpa using this
        refine ⟨⟨w.heap.size + 1, 0, none⟩, rfl, by show w.heap.size ≤ w.heap.size + 1; omega, ?_⟩
        rw [add0, HE.out.out.cell, outA_get gs (N + 1) n j hj]
        rw [List.getElem?_map, List.getElem?_eq_getElem hj] at hu
        rw [List.getD_eq_getElem?_getD, List.getElem?_eq_getElem hj]
        exact hu
      · have hj : j < gs.length := by have := (List.getElem?_eq_some_iff.1 hu).1; simpa using this
        have hjN : j < N + 1 := by rw [← HGl.out]; exact hj
        rw [List.getElem?_map, List.getElem?_eq_getElem hj] at hu
        have hu2 : u = .slice (some ⟨gs.getD j 0, 0, none⟩) n n := by
          rw [List.getD_eq_getElem?_getD, List.getElem?_eq_getElem hj]
          simpa using hu.symm
        have hb := HE.out.blk j hj
        have hrl := HE.out.rl j hj
        have hi2 := HE.out.inc j hj
        obtain ⟨row, hrow⟩ : ∃ row, ((List.range (N + 1)).map (cntAt d)).getD j [] = row := ⟨_, rfl⟩
        rw [hrow] at hb hrl ⊢
        have hlt : Lt 9223372036854775808 row := by
          intro x hx
          rw [List.getD_eq_getElem?_getD, List.getElem?_map, List.getElem?_range hjN] at hrow
          have hrow2 : cntAt d j = row := hrow
          rw [← hrow2] at hx
          obtain ⟨t, ht⟩ := List.getElem?_of_mem hx
          have a1 := cntAt_le HV.out.1 j t
          rw [List.getD_eq_getElem?_getD, ht] at a1
          have a2 : 256 ^ j ≤ 256 ^ 4 := Nat.pow_le_pow_right (by decide) (by omega)
          have a3 : (256 : Nat) ^ 4 = 4294967296 := by decide
          have a4 : x ≤ 256 ^ j := a1
          omega
        rw [hrl]
        exact ⟨_, _, hu2, (hb.rn hrl (by omega) hlt).weak fun k _ hk => by rw [hk]; omega⟩
end Go.Proofs.YtjgkdfghjeodeaaGreatDoor
