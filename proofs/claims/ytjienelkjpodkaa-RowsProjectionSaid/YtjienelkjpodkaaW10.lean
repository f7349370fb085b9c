/- Walks: refute. -/
import Derived.Test.YtjienelkjpodkaaL4
namespace Go.Proofs.Ytjienelkjpodkaa
open Go.RowKit

theorem addAt_len (m : List Int) (i x : Int) : (addAt m i x).length = m.length := by simp [addAt]
theorem addAt_bound {m : List Int} {i x c d : Int} (h : ∀ y ∈ m, -c ≤ y ∧ y ≤ c) (hc : 0 ≤ c) (hx : -d ≤ x ∧ x ≤ d) : ∀ y ∈ addAt m i x, -(c + d) ≤ y ∧ y ≤ c + d := by
  intro y hy
  have hd : 0 ≤ d := by omega
  have hg : -c ≤ m.getD i.toNat 0 ∧ m.getD i.toNat 0 ≤ c := by
    rw [List.getD_eq_getElem?_getD]
    cases he : m[i.toNat]? with
    | none => simp; omega
    | some z => exact h z (List.mem_of_getElem? he)
  rcases List.mem_or_eq_of_mem_set hy with h' | rfl
  · have := h y h'; omega
  · omega

set_option maxHeartbeats 2000000 in
/-- 'refute$1'. -/
theorem addAt_c (v q n : Nat) (m : List Int) (i x : Int) (w : World) (hv : Blk w v 22 #[.slice (some ⟨q, 0, none⟩) n n]) (hq : Blk w q 3 (pv m)) (hn : m.length = n) (hi : 0 ≤ i ∧ i < n) (hm : ∀ y ∈ m, -1000000 ≤ y ∧ y ≤ 1000000) (hx : -1000000 ≤ x ∧ x ≤ 1000000) (_hnb : n ≤ 1000000) :
    Calls Try.prog 48 #[.int .i64 i, .int .i64 x, .pointer (some ⟨v, 0, none⟩)] w fun e w' => e = .returned (.tuple #[]) ∧ Blk w' q 3 (pv (addAt m i x)) ∧ Only q w w' := by
  obtain ⟨j, rfl⟩ : ∃ j : Nat, i = j := ⟨i.toNat, by omega⟩
  have hj : j < n := by omega
  have hc0 := hv.cell 0
  have hc1 := hq.cell j
  rw [pv_get (by rw [hn]; exact hj)] at hc1
  have hf1 := hq.frozen j
  have hg : -1000000 ≤ m.getD j 0 ∧ m.getD j 0 ≤ 1000000 := hm _ (by
    rw [List.getD_eq_getElem?_getD, List.getElem?_eq_getElem (by rw [hn]; exact hj)]; exact List.getElem_mem _)
  have HW := Lib.hid (show Blk (w.setCell ⟨q, j, none⟩ (.int .i64 (m.getD j 0 + x))) q 3 (pv (addAt m j x)) by
    have := hq.set_ j (.int .i64 (m.getD j 0 + x))
    rw [pv_set] at this
    exact this)
  have HO := Lib.hid (Only.setCell w q j (.int .i64 (m.getD j 0 + x)))
  generalize m.getD j 0 = y at *
  clear hv hq hm hn
  go_enter Try.func48, Try.ntmps48
  go_wp2
  go_end0
  all_goals exact ⟨rfl, HW.out, HO.out⟩

theorem info3' : (Try.prog.info? 3).map (fun i => (i.zero, i.size, i.bytes)) = some (some (.int .i64 0), 1, 8) := by kernel_rfl

def RefPost (B g : Nat) (F : Fix) (pA : Option Addr) (pn : Nat) (p : List Step) (w : World) (e : Ending) (w' : World) : Prop :=
  e = .returned (.tuple #[]) ∧ ∃ pA' pc', Srch w' B g F pA' pn pc' p ∧ Chg g pA w w' ∧ NewOr w pA pA'

structure AddRel (q n : Nat) (b : Box) (l M m : List Int) (w3 wr : World) (k : Nat) : Prop where
  only : Only q w3 wr
  blk : Blk wr q 3 (pv m)
  len : m.length = n
  bound : ∀ y ∈ m, -(1 + (k : Int) * 1000) ≤ y ∧ y ≤ 1 + (k : Int) * 1000
  rest : multF (l.drop k) (b.below.drop k) (b.above.drop k) m = M
theorem AddRel.next {q n : Nat} {b : Box} {l M m : List Int} {w3 wr w' : World} {k : Nat} {a i y : Int} (h : AddRel q n b l M m w3 wr k) (hb : b.Wf) (hk : k < 12) (ha : l[k]? = some a) (ha2 : -1000 ≤ a ∧ a ≤ 1000)
    (hi : i = if 0 < a then b.above.getD k 0 else b.below.getD k 0) (hy : y = if 0 < a then a else -a) (ho : Only q wr w') (hq : Blk w' q 3 (pv (addAt m i y))) : AddRel q n b l M (addAt m i y) w3 w' (k + 1) := by
  refine ⟨h.only.trans ho, hq, by rw [addAt_len]; exact h.len, ?_, ?_⟩
  · have := addAt_bound (i := i) (x := y) (d := 1000) h.bound (by omega) (by subst hy; split <;> omega)
    intro z hz
    have := this z hz
    have e : ((k + 1 : Nat) : Int) * 1000 = k * 1000 + 1000 := by omega
    omega
  · have hr := h.rest
    rw [drop_cons_of ha, drop_getD (l := b.below) (by rw [hb.below]; exact hk), drop_getD (l := b.above) (by rw [hb.above]; exact hk), multF] at hr
    rw [← hr, hi, hy]
    split <;> rfl

theorem app_done {w wx w9 w' : World} {g B pn c9 : Nat} {t1 t2 t3 t4 : Value} {pA A9 : Option Addr} {pc : Nat} {us vs : List Value} (hk : Blk w g 63 #[t1, t2, t3, t4, .slice pA pn pc]) (ho : OwnS w B 49 8 pA pn pc us) (hb : Below w.heap.size w wx)
    (hown : OwnS w9 B 49 8 A9 (pn + 1) c9 vs) (hgr : wx.grownBy w9 (obl pA)) (hob : obl A9 = obl pA ∨ obl A9 = some wx.heap.size) (hw : w'.heap = (w9.setCell ⟨g, 4, none⟩ (.slice A9 (pn + 1) c9)).heap) (h1 : w'.os = w9.os) (h2 : w'.tape = w9.tape) (h3 : w'.output = w9.output) :
    ∃ pA' pc', Blk w' g 63 #[t1, t2, t3, t4, .slice pA' (pn + 1) pc'] ∧ OwnS w' B 49 8 pA' (pn + 1) pc' vs ∧ Chg g pA w w' ∧ NewOr w pA pA' := by
  have hgl := hk.lt
  have hne := ownS_ne_blk ho hk (by decide)
  have hk9 : Blk w9 g 63 #[t1, t2, t3, t4, .slice pA pn pc] := (hk.old hb).grown hgr hne
  have hs := hgr.size
  have hs' := hb.size
  have hn9 : obl A9 ≠ some g := fun e => by
    rcases hob with e' | e'
    · rw [e'] at e; exact hne e
    · rw [e'] at e; cases e; omega
  have hblk : ∀ k, k ≠ g → w'.heap[k]? = w9.heap[k]? := fun k hkg => by rw [hw]; exact Below.heap_setCell w9 ⟨g, 4, none⟩ _ k hkg
  have hk' : Blk (w9.setCell ⟨g, 4, none⟩ (.slice A9 (pn + 1) c9)) g 63 #[t1, t2, t3, t4, .slice A9 (pn + 1) c9] := hk9.set_ 4 _
  refine ⟨A9, c9, ?_, hown.keep fun q hq => hblk q (fun e => hn9 (by rw [hq, e])), ⟨?_, ?_, ?_, ?_, ?_⟩, ?_⟩
  · unfold Blk at hk' ⊢
    rw [hw]; exact hk'
  · rw [h1, hgr.os]; exact hb.os
  · rw [h2, hgr.tape]; exact hb.tape
  · rw [h3, hgr.output]; exact hb.output
  · rw [hw]
    have : (w9.setCell ⟨g, 4, none⟩ (.slice A9 (pn + 1) c9)).heap.size = w9.heap.size := by simp [World.setCell]
    omega
  · intro k h4 h5 h6
    rw [hblk k h4, hgr.block k (by omega) (fun e => h5 e.symm)]
    exact hb.block k h6
  · intro k hk
    rcases hob with e | e
    · exact .inl (by rw [← e]; exact hk)
    · rw [e] at hk; cases hk; right; omega

theorem cell_below {w w' : World} (hb : Below w.heap.size w w') {p : Addr} {u : Value} (hc : w.cell? p = some u) : w'.cell? p = some u :=
  (World.cell?_of_block (w := w) (w' := w') (a := p) (hb.block _ (lt_of_cell hc))).trans hc
theorem blk_sl {w : World} {g : Nat} {t : TypeId} {cs : Array Value} (h : Blk w g t cs) : Sl w (fun _ => True) (some ⟨g, 0, none⟩) cs.toList := fun j u hu => by
  refine ⟨_, rfl, trivial, ?_⟩
  have e : (⟨g, 0, none⟩ : Addr).add j = ⟨g, j, none⟩ := by
    unfold Addr.add
    by_cases hj : j = 0 <;> simp [hj]
  rw [e, h.cell]
  simpa using hu
theorem multF_nil (u v m : List Int) : multF [] u v m = m := by unfold multF; rfl

set_option maxHeartbeats 2000000 in
/-- '(*search).refute'. -/
theorem refute_c (B g : Nat) (F : Fix) (pA : Option Addr) (pn pc : Nat) (p : List Step) (k : Nat) (r : Row) (a : Int) (b : Box) (w : World) (h : Srch w B g F pA pn pc p) (hp : pn + 2 ≤ 100000) (hB : B ≤ w.heap.size) (hr : F.rows[k]? = some r) (ha : F.at'[k]? = some a) (hb : b.Wf)
    (hl : r.1.length ≤ 12) (hcf : eachB r.1 (-1000) 1000 = true) (hbe : eachB b.below 0 (b.rows - 1) = true) (hab : eachB b.above 0 (b.rows - 1) = true) (h0 : 0 ≤ a ∧ a < b.rows) (hrows : b.rows ≤ 100000) :
    Calls Try.prog 37 #[.pointer (some ⟨g, 0, none⟩), .int .i64 k, .agg (bxv b)] w (RefPost B g F pA (pn + 2) (refuteF r a b p) w) := by
  have hmf : ∀ (fn : Fn) (first cap : Array Value) (w : World), (Instr.makeFunc fn first cap).run Try.prog w = .ok (.func fn first cap) w := fun _ _ _ _ => rfl
  obtain ⟨n, hn⟩ : ∃ n : Nat, b.rows = n := ⟨b.rows.toNat, by omega⟩
  have hkr : k < F.rn := by have := h.rows.len; have := (List.getElem?_eq_some_iff.1 hr).1; omega
  have hka : k < F.an := by have := h.at'.len; have := (List.getElem?_eq_some_iff.1 ha).1; omega
  obtain ⟨aad, x, hAa, _, hx, _, hca⟩ := h.at'.at_ hka
  obtain rfl : x = a := by rw [hx] at ha; exact Option.some.inj ha
  obtain ⟨rad, r', A', n', c', hAr, _, hr', hcr, _, hR1, _⟩ := h.rows.at_ hkr
  obtain rfl : r' = r := by rw [hr'] at hr; exact Option.some.inj hr
  have HS := Lib.hid h
  have hgl := h.blk.lt
  have HWf := Lib.hid hb
  have HCf := Lib.hid hcf
  have HBe := Lib.hid hbe
  have HAb := Lib.hid hab
  have HR1 := Lib.hid hR1
  have hL := hR1.len
  have hC := hR1.cap
  have hbk := Blk.new w 58 (bxv b)
  have c48 := hbk.cell 48
  rw [bxv_get hb (by omega), ints_rows hb, hn] at c48
  have HBk := Lib.hid hbk
  have HN := Lib.hid hn
  have HM := Lib.hid (show refuteF r' x b p = p ++ [{ kind := 1, m := multF (r'.1.drop 0) (b.below.drop 0) (b.above.drop 0) (addAt (List.replicate n 0) x 1), next := p.length + 1 }] ++ [{ kind := 4 }] by rw [refuteF, hn]; rfl)
  generalize hMe : multF (r'.1.drop 0) (b.below.drop 0) (b.above.drop 0) (addAt (List.replicate n 0) x 1) = M at HM
  have HMe := Lib.hid hMe
  have c3 := h.blk.cell 3
  have c3' : w.cell? ⟨g, 3, none⟩ = some (.slice (some aad) F.an F.ac) := by rw [hAa] at c3; simpa using c3
  have c2 := h.blk.cell 2
  have c2' : w.cell? ⟨g, 2, none⟩ = some (.slice (some rad) F.rn F.rc) := by rw [hAr] at c2; simpa using c2
  have HC := Lib.hid fun W (hb : Below w.heap.size w W) => (⟨cell_below hb c3', cell_below hb hca, cell_below hb c2', cell_below hb hcr⟩ : _ ∧ _ ∧ _ ∧ _)
  rw [hn] at h0 hrows HBe HAb
  clear hbk h ha hb hcf hbe hab hn hR1 hMe c3 c3' c2 c2' hca hcr hx hr' hAa hAr hr
  go_enter Try.func37, Try.ntmps37
  go_wp2_with (first | (refine wpList_makeFull rfl (.tmp 11) (.tmp 11) 22 rfl (.int .i64 0) Try.underlying22 info3' rfl n rfl rfl (by omega) (by omega) ?_
                        intro w1 hq1 hb1 hs1
                        simp only [World.size_alloc] at hs1 hb1 hq1
                        have hbs := ((Below.refl w.heap.size w).alloc (Nat.le_refl _) (.cells (bxv b) 58)).trans (hb1.mono (Nat.le_succ _))
                        have hv := Blk.new w1 22 #[.slice (some ⟨w.heap.size + 1, 0, none⟩) n n]
                        have hb2 := hbs.alloc hbs.size (.cells #[.slice (some ⟨w.heap.size + 1, 0, none⟩) n n] 22)
                        have hq2 := hq1.alloc (.cells #[.slice (some ⟨w.heap.size + 1, 0, none⟩) n n] 22)
                        have hx2 := (HBk.out.below hb1 (by simp)).alloc (.cells #[.slice (some ⟨w.heap.size + 1, 0, none⟩) n n] 22)
                        have hpv : (List.replicate n (Value.int .i64 0)).toArray = pv (List.replicate n 0) := by simp [pv]
                        rw [hpv] at hq2
                        obtain ⟨c3, ca, _⟩ := HC.out _ hb2
                        have Hq2 := Lib.hid hq2
                        have Hv2 := Lib.hid hv
                        have Hx2 := Lib.hid hx2
                        have Hb2 := Lib.hid hb2
                        have Hs1 := Lib.hid hs1
                        clear hq1 hb1 hs1 hbs hv hb2 hq2 hx2 hpv) | (
                        go_at_call 48
                        refine (addAt_c w1.heap.size (w.heap.size + 1) n (List.replicate n 0) x 1 _ Hv2.out Hq2.out (by simp) h0 (fun y hy => by rw [(List.mem_replicate.1 hy).2]; omega) (by omega) (by omega)).mono ?_
                        rintro e w3 ⟨rfl, hq3, ho3⟩
                        have hb3 := below_only Hb2.out ho3 (by omega)
                        obtain ⟨_, _, c2, cr⟩ := HC.out _ hb3
                        have Hq3 := Lib.hid hq3
                        have Hv3 := Lib.hid (Hv2.out.only ho3 (by rw [Hs1.out]; omega))
                        have Hx3 := Lib.hid (Hx2.out.only ho3 (by omega))
                        have Hb3 := Lib.hid hb3
                        clear hq3 ho3 hb3 c3 ca))
  have HI := Lib.hid (show AddRel (w.heap.size + 1) n b r'.1 M (addAt (List.replicate n 0) x 1) w3 w3 0 from ⟨Only.refl _ _, Hq3.out, by simp [addAt], by
    have := addAt_bound (m := List.replicate n 0) (i := x) (x := 1) (c := 0) (d := 1) (fun y hy => by rw [(List.mem_replicate.1 hy).2]; omega) (by omega) (by omega)
    intro y hy
    have := this y hy
    omega, HMe.out⟩)
  have Hvq := Lib.hid (show w1.heap.size ≠ w.heap.size + 1 by rw [Hs1.out]; omega)
  clear c2 cr c48
  go_loopw [32] (fun s32 wr => ∃ (j : Nat) (m : List Int), j ≤ n' ∧ s32 = .int .i64 j ∧ AddRel (w.heap.size + 1) n b r'.1 M m w3 wr j) (fun s32 _ => n' - (intOf s32).toNat)
  case atStart => exact ⟨0, _, Nat.zero_le _, rfl, HI.out⟩
  case round =>
    obtain ⟨j, m, hj, rfl, hq⟩ := hrel
    obtain ⟨wo, rfl⟩ : ∃ wo : World, wo = wr := ⟨_, rfl⟩
    have HQ := Lib.hid hq
    have hbr := below_only Hb3.out hq.only (by omega)
    have Hbr := Lib.hid hbr
    clear hq HI
    by_cases hlt : j < n'
    · obtain ⟨ad, y, rfl, _, hy, _, hcy⟩ := (HR1.out.below hbr).at_ hlt
      have hy2 := bet_iff.1 (all_mem HCf.out hy)
      have Hy := Lib.hid hy
      have hj12 : j < 12 := by omega
      have l1 := getD_bet HAb.out (show j < b.above.length by rw [HWf.out.above]; exact hj12)
      have l2 := getD_bet HBe.out (show j < b.below.length by rw [HWf.out.below]; exact hj12)
      have hvx := Hx3.out.only HQ.out.only (by omega)
      have hc1 := hvx.cell (36 + j)
      rw [bxv_get HWf.out (by omega), ints_above HWf.out hj12] at hc1
      have hc2 := hvx.cell (24 + j)
      rw [bxv_get HWf.out (by omega), ints_below HWf.out hj12] at hc2
      have HM1 := Lib.hid (show ∀ z ∈ m, -1000000 ≤ z ∧ z ≤ 1000000 from fun z hz => by have := HQ.out.bound z hz; omega)
      clear hvx hbr hy
      by_cases h00 : 0 < y
      · have d1 : decide (0 < y) = true := decide_eq_true h00
        have Hi := Lib.hid (show b.above.getD j 0 = if 0 < y then b.above.getD j 0 else b.below.getD j 0 by rw [if_pos h00])
        have Hn := Lib.hid (show y = if 0 < y then y else -y by rw [if_pos h00])
        clear h00
        go_wp2_with (go_at_call 48
                     refine (addAt_c w1.heap.size (w.heap.size + 1) n m (b.above.getD j 0) y _ (Hv3.out.only HQ.out.only Hvq.out) HQ.out.blk HQ.out.len (by omega) HM1.out (by omega) (by omega)).mono ?_
                     rintro e w4 ⟨rfl, hq4, ho4⟩
                     have HX := Lib.hid (HQ.out.next HWf.out hj12 Hy.out hy2 Hi.out Hn.out ho4 hq4)
                     clear hq4 ho4)
        go_roundw
        case rel => exact ⟨j + 1, _, by omega, by go_num, HX.out⟩
        case measure => simp [intOf]; omega
      · have d1 : decide (0 < y) = false := decide_eq_false h00
        have Hi := Lib.hid (show b.below.getD j 0 = if 0 < y then b.above.getD j 0 else b.below.getD j 0 by rw [if_neg h00])
        have Hn := Lib.hid (show -y = if 0 < y then y else -y by rw [if_neg h00])
        clear h00
        go_wp2_with (go_at_call 48
                     refine (addAt_c w1.heap.size (w.heap.size + 1) n m (b.below.getD j 0) (-y) _ (Hv3.out.only HQ.out.only Hvq.out) HQ.out.blk HQ.out.len (by omega) HM1.out (by omega) (by omega)).mono ?_
                     rintro e w4 ⟨rfl, hq4, ho4⟩
                     have HX := Lib.hid (HQ.out.next HWf.out hj12 Hy.out hy2 Hi.out Hn.out ho4 hq4)
                     clear hq4 ho4)
        go_roundw
        case rel => exact ⟨j + 1, _, by omega, by go_num, HX.out⟩
        case measure => simp [intOf]; omega
    · obtain rfl : j = n' := by omega
      obtain rfl : m = M := by
        have := HQ.out.rest
        rw [List.drop_eq_nil_of_le (by omega), multF_nil] at this
        exact this
      have hS5 := HS.out.below hbr
      obtain ⟨us, hOus, hAus⟩ := hS5.po
      have cv := (Hv3.out.only HQ.out.only Hvq.out).cell 0
      have hm := HQ.out.blk.r1 (K := NK g pA) ⟨by omega, fun e => by
        obtain ⟨us', h1, _⟩ := HS.out.po
        have := (h1.lt _ e).2
        omega⟩ HQ.out.len (by omega) (fun y hy => by have := HQ.out.bound y hy; unfold I64; omega)
      have Hm := Lib.hid hm
      have HS5 := Lib.hid hS5
      have HO := Lib.hid hOus
      have HAu := Lib.hid hAus
      have HB5 := Lib.hid (show B ≤ wo.heap.size by have := hbr.size; omega)
      clear hm hS5 hOus hAus hbr
      go_wp2_with (first | (refine wpList_appendSS rfl (.tmp 63) (.tmp 65) 29 rfl app29 B pA5 (pn + 1) pc5 us6 rfl (HO6.out.alloc _) (some ⟨w5.heap.size, 0, none⟩) 1 1 (stepCells 4 (.slice none 0 0) 0 0 0 0 0 0) rfl rfl (K := fun _ => True) (blk_sl (Blk.new w5 49 _)) (by simp [stepCells, Value.oneCell']) (by omega) (by omega) (by simp; have := HB5.out; have := HG5.out.size; omega) ?_
                            intro A9 c9 w9 hown hgr hob
                            have hk9 := (HS6.out.blk.alloc (.cells (stepCells 4 (.slice none 0 0) 0 0 0 0 0 0).toArray 49)).grown hgr (ownS_ne_blk HO6.out HS6.out.blk (by decide))
                            have c9' := hk9.cell 4
                            have f9' := hk9.frozen 4
                            have HD := Lib.hid (app_done HS6.out.blk HO6.out ((Below.refl _ _).alloc (Nat.le_refl _) _) hown hgr hob (w' := w9.setCell ⟨g, 4, none⟩ (.slice A9 (pn + 1 + 1) c9)) rfl rfl rfl rfl)
                            clear hk9 hown hgr hob) | (
                            go_at_call 34
                            refine (step_c g _ _ _ _ pA pn pc us B (some ⟨w.heap.size + 1, 0, none⟩) n n 1 0 0 0 0 0 0 wo HS5.out.blk HO.out (by omega) HB5.out).mono ?_
                            rintro e w5 ⟨rfl, pA5, pc5, hk5, ho5, hch5, hno5⟩
                            have hS6 := HS5.out.grow HAu.out hk5 ho5 hch5 hno5 (s := { kind := 1, m := m, next := p.length + 1 }) (by rw [HS5.out.len]) Hm.out
                            obtain ⟨us6, hO6, hA6⟩ := hS6.po
                            have HS6 := Lib.hid hS6
                            have HO6 := Lib.hid hO6
                            have HA6 := Lib.hid hA6
                            have HG5 := Lib.hid hch5
                            have HN5 := Lib.hid hno5
                            have c4 := hk5.cell 4
                            clear hS6 hO6 hA6 hch5 hno5 hk5 ho5))
      go_end0
      all_goals
        obtain ⟨pA7, pc7, hk7, ho7, hc7, hn7⟩ := HD.out
        have hN := (NewOr.refl w pA).trans HN5.out Hbr.out.size
        have hC := ((Chg.of_below Hbr.out).trans HG5.out (NewOr.refl w pA))
        refine ⟨rfl, pA7, pc7, ?_, hC.trans hc7 hN, hN.trans hn7 (Nat.le_trans Hbr.out.size HG5.out.size)⟩
        rw [HM.out]
        exact HS6.out.grow HA6.out hk7 ho7 hc7 hn7 rfl (R1.nil_ _ _)

end Go.Proofs.Ytjienelkjpodkaa
