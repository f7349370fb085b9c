/- Walks of the reference: Closure. -/
import Derived.Test.YtekbkdbmkjdgbaaW14
namespace Go.Proofs.Ytekbkdbmkjdgbaa
open Go.RowKit

structure ClRel (w wr : World) (s a : List Int) (A : Option Addr) (n c : Nat) : Prop where
  below : Below w.heap.size w wr
  own : Own wr w.heap.size 3 A n c (s.map (Value.int .i64))
  rel : Rel s a
  len : s.length + zc a ≤ 17

theorem ClRel.n {w wr : World} {s a : List Int} {A : Option Addr} {n c : Nat} (h : ClRel w wr s a A n c) : n ≤ 17 := by
  have h1 := h.own.len
  have h2 := h.len
  simp at h1
  omega
theorem ClRel.r1 {w wr : World} {s a : List Int} {A : Option Addr} {n c : Nat} (h : ClRel w wr s a A n c) : R1 wr (fun _ => True) A n c s :=
  h.own.r1 (fun _ _ => trivial) (by have := h.n; omega) fun x hx => by
    obtain ⟨v0, v1, v2⟩ := wi_facts (h.rel.lit x hx)
    unfold I64; omega
theorem ClRel.old {w wr w2 : World} {s a : List Int} {A : Option Addr} {n c : Nat} (h : ClRel w wr s a A n c) (hb : Below wr.heap.size wr w2) : ClRel w w2 s a A n c :=
  ⟨h.below.trans (hb.mono h.below.size), h.own.below hb, h.rel, h.len⟩
theorem ClRel.push {w wr w2 : World} {s a : List Int} {A A2 : Option Addr} {n c c2 : Nat} {x : Int} {o : Obj} (h : ClRel w wr s a A n c) (hx : wi 16 x = true) (hv : val a x = 0)
    (ho : Own w2 w.heap.size 3 A2 (n + 1) c2 (s.map (Value.int .i64) ++ [.int .i64 x])) (hg : (wr.alloc o).grownBy w2 (obl A)) : ClRel w w2 (s ++ [x]) (setL a x) A2 (n + 1) c2 :=
  ⟨(h.below.alloc h.below.size _).grown hg (by have := h.below.size; simp; omega) (fun g hg => (h.own.lt g hg).1), by simpa using ho, h.rel.add hx hv, by
    have := zc_setL h.rel.wf hx hv
    have := h.len
    simp; omega⟩

theorem rel_val {s a : List Int} (h : Rel s a) {x : Int} (hx : wi 16 x = true) (h1 : hasB s x = false) (h2 : hasB s (-x) = false) : val a x = 0 := by
  rw [h.hasT hx] at h1
  rw [h.hasN hx] at h2
  simp at h1 h2
  omega

def ClosPost (w : World) : Option (List Int) → Ending → World → Prop
  | none, e, w' => e = .returned (.tuple #[.slice none 0 0, .bool false]) ∧ Below w.heap.size w w'
  | some s, e, w' => ∃ A n c, e = .returned (.tuple #[.slice A n c, .bool true]) ∧ R1 w' (fun _ => True) A n c s ∧ s.length ≤ 17 ∧ Below w.heap.size w w'

def COut (w : World) (f : List (List Int)) (R : Option (List Int)) (g : Nat) (ch : Bool) (A : Option Addr) (n c : Nat) (wr : World) : Prop :=
  ∃ s a, ClRel w wr s a A n c ∧ g = (if ch then zc a + 1 else 0) ∧ (if ch then rpropA f s else some s) = R
def CMid (w : World) (f : List (List Int)) (R : Option (List Int)) (z k : Nat) (ch : Bool) (A : Option Addr) (n c : Nat) (wr : World) : Prop :=
  ∃ s a, ClRel w wr s a A n c ∧ zc a ≤ z ∧ (ch = true → zc a < z) ∧ nextP (rpropA f) (rpassF (f.drop k) s ch) = R

section
variable {w wr : World} {f : List (List Int)} {R : Option (List Int)} {A : Option Addr} {n c : Nat}
theorem cout_mid {g : Nat} (hf : Lits f) (h : COut w f R g true A n c wr) : ∃ z, g = z + 1 ∧ CMid w f R z 0 false A n c wr := by
  obtain ⟨s, a, hp, hg, hr⟩ := h
  refine ⟨zc a, hg, s, a, hp, Nat.le_refl _, (fun e => (by cases e)), ?_⟩
  rw [if_pos rfl] at hr
  rw [← hr, rpropA_step hf hp.rel]
  rfl
theorem cmid_out {z k : Nat} {ch : Bool} (hk : f.length ≤ k) (h : CMid w f R z k ch A n c wr) : ∃ g, g < z + 1 ∧ COut w f R g ch A n c wr := by
  obtain ⟨s, a, hp, h1, h2, hr⟩ := h
  rw [List.drop_eq_nil_of_le hk, rpassF] at hr
  cases ch with
  | false => exact ⟨0, by omega, s, a, hp, rfl, hr⟩
  | true => exact ⟨zc a + 1, by have := h2 rfl; omega, s, a, hp, rfl, hr⟩
theorem cmid_conf {k : Nat} {ch : Bool} {s x : List Int} {u : Int} (hx : f[k]? = some x) (hs : unitF s x 0 = (u, true)) (h : nextP (rpropA f) (rpassF (f.drop k) s ch) = R) : R = none := by
  rw [← h, drop_cons_of hx, rpassF, hs]; rfl
theorem cmid_skip {k : Nat} {ch : Bool} {s x : List Int} (hx : f[k]? = some x) (hs : unitF s x 0 = (0, false)) (h : nextP (rpropA f) (rpassF (f.drop k) s ch) = R) : nextP (rpropA f) (rpassF (f.drop (k + 1)) s ch) = R := by
  rw [← h, drop_cons_of hx, rpassF, hs]; rfl
theorem cmid_unit {k : Nat} {ch : Bool} {s x : List Int} {u : Int} (hx : f[k]? = some x) (hs : unitF s x 0 = (u, false)) (hu : u ≠ 0) (h : nextP (rpropA f) (rpassF (f.drop k) s ch) = R) : nextP (rpropA f) (rpassF (f.drop (k + 1)) (s ++ [u]) true) = R := by
  rw [← h, drop_cons_of hx, rpassF, hs]
  dsimp only
  rw [if_neg (by simp), if_neg hu]
theorem unit_val {s a x : List Int} {u : Int} {b : Bool} (h : Rel s a) (hc : ∀ y ∈ x, wi 16 y = true) (hs : unitF s x 0 = (u, b)) (hu : u ≠ 0) : wi 16 u = true ∧ val a u = 0 := by
  rw [unit_scan h hc] at hs
  cases hq : scanF a x 0 with
  | none => rw [hq] at hs; cases hs; exact absurd rfl hu
  | some v =>
    rw [hq] at hs; cases hs
    rcases scanF_some hq with e | ⟨e1, e2⟩
    · exact absurd e hu
    · exact ⟨hc _ e1, e2⟩
theorem unit_zero {s x : List Int} {u : Int} {b : Bool} (h : unitF s x 0 = (u, b)) (hb : b = true) : u = 0 := by
  have key : ∀ (x : List Int) (u0 : Int), (unitF s x u0).2 = true → (unitF s x u0).1 = 0 := by
    intro x
    induction x with
    | nil => intro u0 h; simpa [unitF] using h
    | cons y r ih =>
      intro u0 h
      rw [unitF] at h ⊢
      split
      · rfl
      · rename_i hn; rw [if_neg hn] at h; exact ih _ h
  have := key x 0 (by rw [h]; exact hb)
  rw [h] at this; exact this
end

theorem rb_conf {l s : List Int} {k : Nat} {x : Int} {r : Option (List Int)} (hx : l[k]? = some x) (hn : hasB s (-x) = true) (h : rbeginF (l.drop k) s = r) : r = none := by
  rw [← h, drop_cons_of hx, rbeginF, hn]; rfl
theorem rb_skip {l s : List Int} {k : Nat} {x : Int} {r : Option (List Int)} (hx : l[k]? = some x) (hn : hasB s (-x) = false) (hp : hasB s x = true) (h : rbeginF (l.drop k) s = r) : rbeginF (l.drop (k + 1)) s = r := by
  rw [← h, drop_cons_of hx, rbeginF, hn, hp]; rfl
theorem rb_take {l s : List Int} {k : Nat} {x : Int} {r : Option (List Int)} (hx : l[k]? = some x) (hn : hasB s (-x) = false) (hp : hasB s x = false) (h : rbeginF (l.drop k) s = r) : rbeginF (l.drop (k + 1)) (s ++ [x]) = r := by
  rw [← h, drop_cons_of hx, rbeginF, hn, hp]; rfl

set_option maxHeartbeats 1000000 in
/-- 'Closure'. -/
theorem clos_c (K K' : Nat → Prop) (A lA : Option Addr) (n c ln lc : Nat) (f : List (List Int)) (l : List Int) (w : World) (h : R2 w K A n c f) (h' : R1 w K' lA ln lc l) (hv : f.all (fun c => c.all (wi 16)) = true) (hl : l.all (wi 16) = true) :
    Calls Try.prog 51 #[.slice A n c, .slice lA ln lc] w (ClosPost w (closF f l)) := by
  have hbig := h.big
  have hcap := h.cap
  have hbig' := h'.big
  have hcap' := h'.cap
  have HF := Lib.hid (Lits.of_all hv)
  have HFa := Lib.hid hv
  have HLi := Lib.hid hl
  have HL := Lib.hid h.len
  have HLl := Lib.hid h'.len
  have hc0 : closF f l = (rbeginF l []).bind (rpropA f) := by
    rw [closF]; cases rbeginF l [] <;> rfl
  rw [hc0]
  generalize hr : rbeginF l [] = r
  have HR := Lib.hid hr
  have HF2 := Lib.hid h
  have HL2 := Lib.hid h'
  clear hr hv hl hc0 h h'
  go_enter Try.func51, Try.ntmps51
  go_wp2
  have HS := Lib.hid (show ClRel w (w.alloc (.cells #[] 3)) [] zeros (some ⟨w.heap.size, 0, none⟩) 0 0 from ⟨(Below.refl _ _).alloc (Nat.le_refl _) _, Own.lit 3 #[] 0 (Nat.le_refl _) (by omega) rfl, Rel.start, by rw [zc_zeros]; simp⟩)
  go_loopw [6, 7] (fun s6 s7 wr => ∃ (k n0 c0 : Nat) (A0 : Option Addr) (s a : List Int), k ≤ ln ∧ s7 = .int .i64 k ∧ s6 = .slice A0 n0 c0 ∧ ClRel w wr s a A0 n0 c0 ∧ rbeginF (l.drop k) s = r) (fun _ s7 _ => ln - (intOf s7).toNat)
  case atStart => exact ⟨0, 0, 0, _, [], zeros, Nat.zero_le _, rfl, rfl, HS.out, by simpa using HR.out⟩
  case round =>
    clear HS HR
    obtain ⟨k, n0, c0, A0, s, a, hk, rfl, rfl, hq, hr⟩ := hrel
    have HQ := Lib.hid hq
    have HR := Lib.hid hr
    have hn0 := hq.n
    have hn0c := hq.own.cap
    clear hq hr
    by_cases hlt : k < ln
    · obtain ⟨ad, x, rfl, _, hx, hw, hcell⟩ := (HL2.out.below HQ.out.below).at_ hlt
      have HX := Lib.hid hx
      have HW := Lib.hid (all_mem HLi.out hx)
      obtain ⟨v0, v1, v2⟩ := wi_facts (all_mem HLi.out hx)
      have HH := Lib.hid fun y => has_c (fun _ => True) A0 n0 c0 s y wr HQ.out.r1
      clear hx hw
      cases hn : hasB s (-x)
      · cases hp : hasB s x
        · have HT := Lib.hid (And.intro hn hp)
          go_wp2_with (first | (go_at_call 59; refine (HH.out _).mono ?_; rintro e w' ⟨rfl, rfl⟩) | (at_builtin; refine wpList_push rfl (.tmp 33) (.tmp 38) 32 rfl app32 w.heap.size A0 n0 c0 (s.map (Value.int .i64)) rfl (HQ.out.own.alloc _) wr.heap.size (.int .i64 x) rfl ((Blk.new wr 3 _).cell 0) rfl (by omega) (by omega) (by have := HQ.out.below.size; simp; omega) ?_; intro A1 c1 w7 hown hgr hob; have HO := Lib.hid hown; have HG := Lib.hid hgr; clear hown hgr hob))
          go_roundw
          case rel => exact ⟨k + 1, n0 + 1, c1, A1, s ++ [x], setL a x, by omega, by go_num, rfl, HQ.out.push HW.out (rel_val HQ.out.rel HW.out HT.out.2 HT.out.1) HO.out HG.out, rb_take HX.out HT.out.1 HT.out.2 HR.out⟩
          case measure => simp [intOf]; omega
        · have HT := Lib.hid (And.intro hn hp)
          go_wp2_with (go_at_call 59; refine (HH.out _).mono ?_; rintro e w' ⟨rfl, rfl⟩)
          go_roundw
          case rel => exact ⟨k + 1, n0, c0, A0, s, a, by omega, by go_num, rfl, HQ.out, rb_skip HX.out HT.out.1 HT.out.2 HR.out⟩
          case measure => simp [intOf]; omega
      · have HT := Lib.hid (rb_conf HX.out hn HR.out)
        go_wp2_with (go_at_call 59; refine (HH.out _).mono ?_; rintro e w' ⟨rfl, rfl⟩)
        go_ret2
        rw [HT.out]
        exact ⟨by rfl, HQ.out.below⟩
    · obtain rfl : k = ln := by omega
      have hr := HR.out
      rw [List.drop_eq_nil_of_le (by have := HLl.out; omega), rbeginF] at hr
      subst hr
      have hc0 : COut w f ((some s).bind (rpropA f)) (zc a + 1) true A0 n0 c0 wr := ⟨s, a, HQ.out, rfl, rfl⟩
      have HC0 := Lib.hid hc0
      generalize (some s).bind (rpropA f) = R at *
      generalize zc a + 1 = g0 at *
      obtain ⟨wo, rfl⟩ : ∃ wo : World, wo = wr := ⟨_, rfl⟩
      clear hc0 HR HQ
      go_wp2
      go_loopg [6, 8] g0 (fun g s6 s8 wr => ∃ (n0 c0 : Nat) (A0 : Option Addr) (ch : Bool), n0 ≤ 17 ∧ n0 ≤ c0 ∧ c0 ≤ 9223372036854775807 ∧ s8 = .bool ch ∧ s6 = .slice A0 n0 c0 ∧ COut w f R g ch A0 n0 c0 wr)
      case atStart => exact ⟨n0, c0, A0, true, hn0, hn0c.1, hn0c.2, rfl, rfl, HC0.out⟩
      case round =>
        clear HC0 hn0 hn0c
        obtain ⟨n0, c0, A0, ch, hn0, hn0c, hn0t, rfl, rfl, hR⟩ := hrel
        have HR := Lib.hid hR
        clear hR
        cases ch
        · obtain ⟨s, a, hq, _, hr⟩ := HR.out
          have HQ := Lib.hid hq
          clear hq
          have HRr := Lib.hid hr
          clear hr
          go_wp2
          go_ret2
          have hr := HRr.out
          rw [if_neg (by simp)] at hr
          subst hr
          exact ⟨A0, n0, c0, by rfl, HQ.out.r1, by have := HQ.out.len; omega, HQ.out.below⟩
        · obtain ⟨z, hz, hm⟩ := cout_mid HF.out HR.out
          have HZ := Lib.hid hz
          have HM := Lib.hid hm
          clear hz hm HR
          go_wp2
          go_loopg [6, 8, 9] n (fun g s6 s8 s9 w2 => ∃ (k n0 c0 : Nat) (A0 : Option Addr) (ch : Bool), k ≤ n ∧ g = n - k ∧ n0 ≤ 17 ∧ n0 ≤ c0 ∧ c0 ≤ 9223372036854775807 ∧ s9 = .int .i64 k ∧ s8 = .bool ch ∧ s6 = .slice A0 n0 c0 ∧ CMid w f R z k ch A0 n0 c0 w2)
          case atStart => exact ⟨0, n0, c0, A0, false, Nat.zero_le _, rfl, hn0, hn0c, hn0t, rfl, rfl, rfl, HM.out⟩
          case round =>
            clear HM hn0 hn0c hn0t
            obtain ⟨k, n0, c0, A0, ch, hk, hgk, hn0, hn0c, hn0t, rfl, rfl, rfl, s, a, hq, hz1, hz2, hr⟩ := hrel
            have HG := Lib.hid hgk
            have HQ := Lib.hid hq
            have Hz := Lib.hid (And.intro hz1 hz2)
            have HR := Lib.hid hr
            clear hgk hq hz1 hz2 hr
            by_cases hlt : k < n
            · obtain ⟨ad, x, A1, n1, c1, rfl, _, hx, hcell, h1⟩ := (HF2.out.below HQ.out.below).at_ hlt
              have HX := Lib.hid hx
              have hx16 : x.all (wi 16) = true := List.all_eq_true.1 HFa.out x (List.mem_of_getElem? hx)
              have HC := Lib.hid (unit_c _ _ A1 A0 n1 c1 n0 c0 x s wr h1 HQ.out.r1 hx16)
              have hb1 := h1.big
              have hb2 := h1.cap
              generalize hu : unitF s x 0 = us at *
              obtain ⟨u, b⟩ := us
              have HU := Lib.hid hu
              have HU0 := Lib.hid (unit_zero hu)
              have HUv := Lib.hid (unit_val HQ.out.rel (fun y hy => HF.out x (List.mem_of_getElem? hx) y hy) hu)
              clear hx h1 hx16 hu
              cases b with
              | true =>
                have HN := Lib.hid (cmid_conf HX.out HU.out HR.out)
                go_wp2_with (go_at_call 68; refine HC.out.mono ?_; rintro e w' ⟨rfl, rfl⟩)
                try rw [Exit.noGoto_ret]
                go_ret2
                rw [HN.out]
                exact ⟨by rfl, HQ.out.below⟩
              | false =>
                by_cases hu0 : u = 0
                · subst hu0
                  go_wp2_with (go_at_call 68; refine HC.out.mono ?_; rintro e w' ⟨rfl, rfl⟩)
                  go_roundg (n - (k + 1))
                  case measure => go_light; have := HG.out; omega
                  case rel =>
                    go_light
                    exact ⟨k + 1, n0, c0, A0, ch, by omega, rfl, hn0, hn0c, hn0t, by go_num, rfl, rfl, s, a, HQ.out, Hz.out.1, Hz.out.2, cmid_skip HX.out HU.out HR.out⟩
                · have b1 : (u == 0) = false := by simp [hu0]
                  have b2 : (u != 0) = true := by simp [hu0]
                  go_wp2_with (first | (go_at_call 68; refine HC.out.mono ?_; rintro e w' ⟨rfl, rfl⟩) | (at_builtin; refine wpList_push rfl (.tmp 59) (.tmp 61) 32 rfl app32 w.heap.size A0 n0 c0 (s.map (Value.int .i64)) rfl (HQ.out.own.alloc _) wr.heap.size (.int .i64 u) rfl ((Blk.new wr 3 _).cell 0) rfl (by omega) (by omega) (by have := HQ.out.below.size; simp; omega) ?_; intro A9 c9 w7 hown hgr hob; have HO := Lib.hid hown; have HGr := Lib.hid hgr; clear hown hgr hob))
                  obtain ⟨hw, hval⟩ := HUv.out hu0
                  have hzs := zc_setL HQ.out.rel.wf hw hval
                  have hq2 := HQ.out.push hw hval HO.out HGr.out
                  have hcap9 := HO.out.cap
                  go_roundg (n - (k + 1))
                  case measure => go_light; have := HG.out; omega
                  case rel =>
                    go_light
                    have := Hz.out.1
                    exact ⟨k + 1, n0 + 1, c9, A9, true, by omega, rfl, hq2.n, hcap9.1, hcap9.2, by go_num, rfl, rfl, s ++ [u], setL a u, hq2, by omega, fun _ => by omega, cmid_unit HX.out HU.out hu0 HR.out⟩
            · obtain ⟨g', hg1, hg2⟩ := cmid_out (w := w) (by have := HL.out; omega) (show CMid w f R z k ch A0 n0 c0 wr from ⟨s, a, HQ.out, Hz.out.1, Hz.out.2, HR.out⟩)
              have HG2 := Lib.hid hg2
              clear hg2
              go_wp2
              try rw [Exit.noGoto_normal]
              go_wp2
              go_roundg g'
              case measure => go_light; have := HZ.out; omega
              case rel => go_light; exact ⟨n0, c0, A0, ch, hn0, hn0c, hn0t, rfl, rfl, HG2.out⟩

end Go.Proofs.Ytekbkdbmkjdgbaa
