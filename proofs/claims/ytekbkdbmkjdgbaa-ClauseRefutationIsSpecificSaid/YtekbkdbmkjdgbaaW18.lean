/- Walks of the reference: with, refute, Solve. -/
import Derived.Test.YtekbkdbmkjdgbaaW17
import Derived.Test.YtekbkdbmkjdgbaaW8
namespace Go.Proofs.Ytekbkdbmkjdgbaa
open Go.RowKit

def WithPost (w : World) (n : Nat) (l : List Int) (e : Ending) (w' : World) : Prop :=
  ∃ ad c, e = .returned (.slice (some ad) n c) ∧ Own w' w.heap.size 3 (some ad) n c (l.map (Value.int .i64)) ∧ Below w.heap.size w w'

theorem Own.some_ {w : World} {b : Nat} {e : TypeId} {A : Option Addr} {n c : Nat} {xs : List Value} (h : Own w b e A (n + 1) c xs) : ∃ ad, A = some ad := by
  rcases h.2 with ⟨_, h0⟩ | ⟨g, cap, cur, hv, _⟩
  · omega
  · cases hv; exact ⟨_, rfl⟩
theorem Own.cells {w : World} {b : Nat} {e : TypeId} {ad : Addr} {n c : Nat} {xs : List Value} (h : Own w b e (some ad) n c xs) : ∀ (j : Nat) (u : Value), xs[j]? = some u → w.cell? (ad.add j) = some u := fun j u hu => by
  obtain ⟨ad', e', _, hc⟩ := h.sl (K := fun _ => True) (fun _ _ => trivial) j u hu
  cases e'; exact hc

/-- 'with'. -/
theorem with_c (K : Nat → Prop) (ad : Addr) (n c : Nat) (l : List Int) (x : Int) (w : World) (h : R1 w K (some ad) n c l) (hn : n ≤ 1000000) :
    Calls Try.prog 60 #[.slice (some ad) n c, .int .i64 x] w (WithPost w (n + 1) (l ++ [x])) := by
  have h1 := h.sl
  have HL := Lib.hid (show (l.map (Value.int .i64)).length = n by simpa using h.len)
  have HC := Lib.hid (show ∀ (j : Nat) (u : Value), (l.map (Value.int .i64))[j]? = some u → (w.alloc (.cells #[] 3)).cell? (ad.add j) = some u from fun j u hu => by
    obtain ⟨ad', e, _, hc⟩ := h1 j u hu
    cases e
    rw [World.cell?_alloc_lt _ _ _ (lt_of_cell hc)]
    exact hc)
  have hln := h.len
  have HLn := Lib.hid hln
  clear h h1 hln
  go_enter Try.func60, Try.ntmps60
  go_wp2_with (first | (at_builtin; refine wpList_appendAll rfl (.tmp 6) (.tmp 7) 32 rfl app32 w.heap.size (some ⟨w.heap.size, 0, none⟩) 0 0 [] rfl (Own.lit 3 #[] 0 (Nat.le_refl _) (by omega) rfl) ad n c (l.map (Value.int .i64)) rfl HL.out HC.out (ints_one l) (by omega) (by omega) (by simp) ?_; intro A1 c1 w1 hown hgr hob; have HO := Lib.hid (show Own w1 w.heap.size 3 A1 n c1 (l.map (Value.int .i64)) by simpa using hown); have HB1 := Lib.hid (((Below.refl w.heap.size w).alloc (Nat.le_refl _) _).grown hgr (by simp) (fun k hk => by cases hk; exact Nat.le_refl _)); clear hown hgr hob) | (at_builtin; refine wpList_push rfl (.tmp 9) (.tmp 11) 32 rfl app32 w.heap.size A1 n c1 (l.map (Value.int .i64)) rfl (HO.out.alloc _) w1.heap.size (.int .i64 x) rfl ((Blk.new w1 3 _).cell 0) rfl (by omega) (by omega) (by have := HB1.out.size; simp; omega) ?_; intro A2 c2 w2 hown hgr hob; have HO2 := Lib.hid hown; have HG2 := Lib.hid hgr; clear hown hgr hob))
  go_ret
  have hb : Below w.heap.size w w2 := (HB1.out.alloc HB1.out.size _).grown HG2.out (by have := HB1.out.size; simp; omega) (fun g hg => (HO.out.lt g hg).1)
  obtain ⟨ad2, rfl⟩ := HO2.out.some_
  refine ⟨ad2, c2, rfl, ?_, hb⟩
  simpa using HO2.out

def RefPost (w : World) (b : Nat) (e : Ending) (w' : World) : Prop :=
  ∃ ad n c us, e = .returned (.slice (some ad) n c) ∧ Own w' w.heap.size 32 (some ad) n c us ∧ (∀ u ∈ us, u.oneCell' = true) ∧ n < b ∧ Below w.heap.size w w'

theorem ref_done {w w' : World} {A : Option Addr} {n c b : Nat} {us : List Value} (ho : Own w' w.heap.size 32 A (n + 1) c us) (h1 : ∀ u ∈ us, u.oneCell' = true) (hn : n + 1 < b) (hb : Below w.heap.size w w') : RefPost w b (.returned (.slice A (n + 1) c)) w' := by
  rcases ho.2 with ⟨_, h0⟩ | ⟨g, cap, cur, hv, _⟩
  · omega
  · cases hv
    exact ⟨_, _, _, us, rfl, ho, h1, hn, hb⟩

theorem rbegin_sub : ∀ {r s t : List Int}, rbeginF r s = some t → (∀ x ∈ s, x ∈ t) ∧ ∀ x ∈ r, x ∈ t
  | [], s, t, h => by rw [rbeginF] at h; cases h; exact ⟨fun _ h => h, by simp⟩
  | y :: r, s, t, h => by
    rw [rbeginF] at h
    split at h
    · cases h
    · obtain ⟨i1, i2⟩ := rbegin_sub h
      have hy : y ∈ t := by
        apply i1
        split
        · rename_i hs; simpa [hasB] using hs
        · simp
      have hs : ∀ x ∈ s, x ∈ t := fun x hx => i1 x (by split <;> simp [hx])
      exact ⟨hs, fun x hx => by
        rcases List.mem_cons.1 hx with rfl | h1
        · exact hy
        · exact i2 x h1⟩
theorem rpass_sub : ∀ {f : List (List Int)} {s t : List Int} {ch ch' : Bool}, rpassF f s ch = some (t, ch') → ∀ x ∈ s, x ∈ t
  | [], s, t, ch, ch', h => by rw [rpassF] at h; cases h; exact fun _ h => h
  | c :: f, s, t, ch, ch', h => by
    rw [rpassF] at h
    split at h
    · cases h
    · split at h
      · exact rpass_sub h
      · exact fun x hx => rpass_sub h x (by simp [hx])
theorem rprop_sub : ∀ {k : Nat} {f : List (List Int)} {s t : List Int}, rpropF k f s = some t → ∀ x ∈ s, x ∈ t
  | 0, _, _, _, h => by cases h
  | k + 1, f, s, t, h => by
    rw [rpropF] at h
    cases hp : rpassF f s false with
    | none => rw [hp] at h; cases h
    | some y =>
      obtain ⟨s', b⟩ := y
      rw [hp] at h
      cases b with
      | false =>
        have : s' = t := by simpa [nextP] using h
        subst this
        exact rpass_sub hp
      | true =>
        have h' : rpropF k f s' = some t := h
        exact fun x hx => rprop_sub h' x (rpass_sub hp x hx)
theorem clos_sub {f : List (List Int)} {l s : List Int} (h : closF f l = some s) : ∀ x ∈ l, x ∈ s := by
  rw [closF] at h
  cases hb : rbeginF l [] with
  | none => rw [hb] at h; cases h
  | some t =>
    rw [hb] at h
    exact fun x hx => rprop_sub (show rpropF 18 f t = some s from h) x ((rbegin_sub hb).2 x hx)
theorem clos_has {f : List (List Int)} {l s : List Int} {x : Int} (h : closF f l = some s) (hx : hasB s x = false) : hasB l x = false := by
  rw [hasB_false] at hx ⊢
  exact fun hm => hx (clos_sub h x hm)

def RefSaid (k : Nat) : Prop := ∀ (K K' : Nat → Prop) (A : Option Addr) (n c : Nat) (f : List (List Int)) (nn : Nat) (pad : Addr) (pn pc : Nat) (path a : List Int) (w : World),
  R2 w K A n c f → f.all (fun c => c.all (wi 16)) = true → nn ≤ 16 → R1 w K' (some pad) pn pc path → Rel path a → path.length + zc a ≤ 17 → zc a < k →
  Calls Try.prog 40 #[.slice A n c, .int .i64 nn, .slice (some pad) pn pc] w (RefPost w (2 ^ k))

theorem rel_i64 {s a : List Int} (h : Rel s a) : ∀ x ∈ s, I64 x := fun x hx => by
  obtain ⟨v0, v1, v2⟩ := wi_facts (h.lit x hx)
  unfold I64; omega

set_option maxHeartbeats 4000000 in
/-- 'refute'. -/
theorem refute_c (k : Nat) (hk : k ≤ 18) (ih : RefSaid k) : RefSaid (k + 1) := by
  intro K K' A n c f nn pad pn pc path a w h hv hnn hp hrel hlen hz
  have HF := Lib.hid h
  have HV := Lib.hid hv
  have HP := Lib.hid hp
  have HRl := Lib.hid hrel
  have HIh := Lib.hid ih
  have hpl := hp.len
  have hpc := hp.cap
  have hpn : pn ≤ 17 := by omega
  have HZ := Lib.hid (And.intro hlen hz)
  have hv16 : path.all (wi 16) = true := by rw [List.all_eq_true]; exact hrel.lit
  have h0 : Below w.heap.size w (w.alloc (.cells #[] 32)) := (Below.refl _ _).alloc (Nat.le_refl _) _
  have H0 := Lib.hid h0
  have HCl := Lib.hid (clos_c K K' A (some pad) n c pn pc f path _ (h.below h0) (hp.below h0) hv hv16)
  generalize hcl : closF f path = r at *
  have HCr := Lib.hid hcl
  obtain ⟨B, hB⟩ : ∃ B : Nat, B = 2 ^ k := ⟨_, rfl⟩
  have hB1 : 2 ^ (k + 1) = 2 * B := by rw [Nat.pow_succ, hB]; omega
  have hB2 : 1 ≤ B ∧ B ≤ 262144 := by
    rw [hB]
    exact ⟨Nat.one_le_two_pow, Nat.le_trans (Nat.pow_le_pow_right (by omega) hk) (by decide)⟩
  unfold RefSaid at HIh
  rw [← hB] at HIh
  rw [hB1]
  obtain ⟨hB3, hB4⟩ := hB2
  clear h0 h hv hp hrel ih hpl hlen hz hv16 hcl hB hB1
  cases r with
  | none =>
    go_enter Try.func40, Try.ntmps40
    go_wp2_with (go_at_call 51; refine HCl.out.mono ?_; rintro e wt ⟨rfl, hb⟩; have HBt := Lib.hid (H0.out.trans (hb.mono H0.out.size)); have HOt := Lib.hid ((Own.lit (w := w) 32 #[] 0 (Nat.le_refl _) (by omega) rfl).below hb); clear hb)
    have H1t := Lib.hid (show ∀ u ∈ ([] : List Value), u.oneCell' = true by simp)
    have HN0 := Lib.hid (show NegRel wt (wt.alloc (.cells #[] 3)) path 0 (some ⟨wt.heap.size, 0, none⟩) 0 from ⟨(Below.refl _ _).alloc (Nat.le_refl _) _, Own.lit 3 #[] 0 (Nat.le_refl _) (by omega) rfl⟩)
    generalize (some (⟨wt.heap.size, 0, none⟩ : Addr)) = C0 at *
    go_loopw [11, 12] (fun s11 s12 w4 => ∃ (j : Nat) (A0 : Option Addr) (c0 : Nat), j ≤ pn ∧ s12 = .int .i64 j ∧ s11 = .slice A0 j c0 ∧ NegRel wt w4 path j A0 c0) (fun _ s12 _ => pn - (intOf s12).toNat)
    case atStart => exact ⟨0, _, 0, Nat.zero_le _, rfl, rfl, HN0.out⟩
    case round =>
      clear HN0
      obtain ⟨j, A0, c0, hj, rfl, rfl, hn⟩ := hrel
      have HN := Lib.hid hn
      have hn0c := hn.own.cap
      clear hn
      by_cases hlj : j < pn
      · obtain ⟨ad2, y, had2, _, hy, hwy, hcy⟩ := ((HP.out.below HBt.out).below HN.out.below).at_ hlj
        obtain ⟨v0, v1, v2⟩ := wi_facts (HRl.out.lit y (List.mem_of_getElem? hy))
        have HY := Lib.hid hy
        cases had2
        clear hy hwy
        go_wp2_with (at_builtin; refine wpList_push rfl (.tmp 64) (.tmp 70) 32 rfl app32 wt.heap.size A0 j c0 ((negs (path.take j)).map (Value.int .i64)) rfl (HN.out.own.alloc _) _ (.int .i64 (-y)) rfl ((Blk.new _ 3 _).cell 0) rfl (by omega) (by omega) (by have := HN.out.below.size; simp; omega) ?_; intro A5 c5 w7 hown hgr hob; have HO := Lib.hid hown; have HG := Lib.hid hgr; clear hown hgr hob)
        go_roundw
        case rel =>
          refine ⟨j + 1, A5, c5, by omega, by go_num, rfl, ?_, by rw [negs_snoc HY.out]; exact HO.out⟩
          exact (HN.out.below.alloc HN.out.below.size _).grown HG.out (by have := HN.out.below.size; simp; omega) (fun g hg => (HN.out.own.lt g hg).1)
        case measure => simp [intOf]; omega
      · have HB4 := Lib.hid (HBt.out.trans (HN.out.below.mono HBt.out.size))
        have HO4 := Lib.hid (HOt.out.below HN.out.below)
        go_wp2_with (at_builtin; refine wpList_push rfl (.tmp 72) (.tmp 74) 22 rfl app22 w.heap.size (some ⟨w.heap.size, 0, none⟩) 0 0 [] rfl (HO4.out.alloc _) wr.heap.size (.slice A0 j c0) rfl ((Blk.new wr 32 _).cell 0) rfl (by omega) (by omega) (by have := HB4.out.size; simp; omega) ?_; intro A9 c9 w9 hown hgr hob; have HO9 := Lib.hid hown; have HG9 := Lib.hid hgr; clear hown hgr hob)
        go_ret
        refine ref_done HO9.out (fun u hu => ?_) (by omega) ((HB4.out.alloc HB4.out.size _).grown HG9.out (by have := HB4.out.size; simp; omega) (fun g hg => (HO4.out.lt g hg).1))
        rcases List.mem_append.1 hu with h1 | h1
        · exact H1t.out u h1
        · simp only [List.mem_singleton] at h1; rw [h1]; rfl
  | some s =>
    have HWith := Lib.hid fun W (hb : Below w.heap.size w W) x => with_c K' pad pn pc path x W (HP.out.below hb) (by omega)
    go_enter Try.func40, Try.ntmps40
    go_wp2_with (go_at_call 51; refine HCl.out.mono ?_; rintro e wt ⟨sA, sn, sc, rfl, hs, hs17, hb⟩; have HBt := Lib.hid (H0.out.trans (hb.mono H0.out.size)); have HOt := Lib.hid ((Own.lit (w := w) 32 #[] 0 (Nat.le_refl _) (by omega) rfl).below hb); have HSr := Lib.hid hs; clear hb hs hs17)
    have H1t := Lib.hid (show ∀ u ∈ ([] : List Value), u.oneCell' = true by simp)
    have HH := Lib.hid fun y => has_c _ sA sn sc s y wt HSr.out
    go_loop [10] (fun i => ∃ v : Nat, 1 ≤ v ∧ v ≤ nn + 1 ∧ i = .int .i64 v) (fun i => nn + 1 - (intOf i).toNat)
    case atStart => exact ⟨1, by omega, by omega, rfl⟩
    case round =>
      obtain ⟨v, hv1, hv2, rfl⟩ := hrel
      by_cases hlt : v ≤ nn
      · cases hp : hasB s (v : Int)
        · cases hn : hasB s (-(v : Int))
          · have hw16 : wi 16 (v : Int) = true := wi_of (by omega) (by omega) (by omega)
            have hval : val a (v : Int) = 0 := rel_val HRl.out hw16 (clos_has HCr.out hp) (clos_has HCr.out hn)
            have hvalN : val a (-(v : Int)) = 0 := by rw [val_neg (wi_facts hw16).1, hval]; rfl
            have HR1 := Lib.hid (HRl.out.add (wi_neg hw16) hvalN)
            have HR2 := Lib.hid (HRl.out.add hw16 hval)
            have hz1 := zc_setL HRl.out.wf (wi_neg hw16) hvalN
            have hz2 := zc_setL HRl.out.wf hw16 hval
            have HZ1 := Lib.hid (show (path ++ [-(v : Int)]).length + zc (setL a (-(v : Int))) ≤ 17 ∧ zc (setL a (-(v : Int))) < k by
              have h1 := HZ.out.1
              have h2 := HZ.out.2
              rw [List.length_append, List.length_singleton]; omega)
            have HZ2 := Lib.hid (show (path ++ [(v : Int)]).length + zc (setL a (v : Int)) ≤ 17 ∧ zc (setL a (v : Int)) < k by
              have h1 := HZ.out.1
              have h2 := HZ.out.2
              rw [List.length_append, List.length_singleton]; omega)
            clear hw16 hval hvalN hz1 hz2
            go_wp2_with (first | (go_at_call 59; refine (HH.out _).mono ?_; rintro e w' ⟨rfl, rfl⟩) | (go_at_call 60; refine (HWith.out _ (by first | exact HB3.out | exact HBt.out) _).mono ?_; rintro e w1 ⟨ad1, c1, rfl, ho, hb⟩; have HO1 := Lib.hid ho; have HB1 := Lib.hid hb; have HT1 := Lib.hid (show Below w.heap.size w w1 by first | exact HB3.out.trans (hb.mono HB3.out.size) | exact HBt.out.trans (hb.mono HBt.out.size)); clear ho hb) | (go_at_call 40; refine (HIh.out K (fun _ => True) A n c f nn ad1 (pn + 1) c1 (path ++ [-(v : Int)]) (setL a (-(v : Int))) w1 (HF.out.below HT1.out) HV.out hnn (HO1.out.r1 (fun _ _ => trivial) (by omega) (rel_i64 HR1.out)) HR1.out HZ1.out.1 HZ1.out.2).mono ?_; rintro e w2 ⟨ad2, n2, c2, us2, rfl, ho, h1, hn2, hb⟩; have HO2 := Lib.hid ho; have H12 := Lib.hid h1; have HT2 := Lib.hid (HB1.out.trans (hb.mono HB1.out.size)); clear ho h1 hb) | (go_at_call 40; refine (HIh.out K (fun _ => True) A n c f nn ad1 (pn + 1) c1 (path ++ [(v : Int)]) (setL a (v : Int)) w1 (HF.out.below HT1.out) HV.out hnn (HO1.out.r1 (fun _ _ => trivial) (by omega) (rel_i64 HR2.out)) HR2.out HZ2.out.1 HZ2.out.2).mono ?_; rintro e w4 ⟨ad4, n4, c4, us4, rfl, ho, h1, hn4, hb⟩; have HO4 := Lib.hid ho; have H14 := Lib.hid h1; have HT4 := Lib.hid (HB1.out.trans (hb.mono HB1.out.size)); clear ho h1 hb) | (at_builtin; refine wpList_appendAll rfl (.tmp 40) (.tmp 47) 22 rfl app22 w.heap.size (some ⟨w.heap.size, 0, none⟩) 0 0 [] rfl (HOt.out.below HT2.out) ad2 n2 c2 us2 rfl HO2.out.len HO2.out.cells H12.out (by omega) (by omega) (by have := HBt.out.size; have := HT2.out.size; omega) ?_; intro A3 c3 w3 hown hgr hob; have HO3 := Lib.hid (show Own w3 w.heap.size 32 A3 n2 c3 us2 by simpa using hown); have HB3 := Lib.hid ((HBt.out.trans (HT2.out.mono HBt.out.size)).grown hgr (by have := HBt.out.size; have := HT2.out.size; omega) (fun k hk => by cases hk; exact Nat.le_refl _)); clear hown hgr hob) | (at_builtin; refine wpList_appendAll rfl (.tmp 49) (.tmp 55) 22 rfl app22 w.heap.size A3 n2 c3 us2 rfl (HO3.out.below HT4.out) ad4 n4 c4 us4 rfl HO4.out.len HO4.out.cells H14.out (by omega) (by omega) (by have := HB3.out.size; have := HT4.out.size; omega) ?_; intro A5 c5 w5 hown hgr hob; have HOq := Lib.hid hown; have HBq := Lib.hid ((HB3.out.trans (HT4.out.mono HB3.out.size)).grown hgr (by have := HB3.out.size; have := HT4.out.size; omega) (fun k hk => (HO3.out.lt k hk).1)); clear hown hgr hob))
            have H1q := Lib.hid (show ∀ u ∈ us2 ++ us4, u.oneCell' = true from fun u hu => by
              rcases List.mem_append.1 hu with h1 | h1
              · exact H12.out u h1
              · exact H14.out u h1)
            have HN0 := Lib.hid (show NegRel w5 (w5.alloc (.cells #[] 3)) path 0 (some ⟨w5.heap.size, 0, none⟩) 0 from ⟨(Below.refl _ _).alloc (Nat.le_refl _) _, Own.lit 3 #[] 0 (Nat.le_refl _) (by omega) rfl⟩)
            generalize (some (⟨w5.heap.size, 0, none⟩ : Addr)) = C0 at *
            go_loopw [11, 12] (fun s11 s12 w4 => ∃ (j : Nat) (A0 : Option Addr) (c0 : Nat), j ≤ pn ∧ s12 = .int .i64 j ∧ s11 = .slice A0 j c0 ∧ NegRel w5 w4 path j A0 c0) (fun _ s12 _ => pn - (intOf s12).toNat)
            case atStart => exact ⟨0, _, 0, Nat.zero_le _, rfl, rfl, HN0.out⟩
            case round =>
              clear HN0
              obtain ⟨j, A0, c0, hj, rfl, rfl, hn⟩ := hrel
              have HN := Lib.hid hn
              have hn0c := hn.own.cap
              clear hn
              by_cases hlj : j < pn
              · obtain ⟨ad2, y, had2, _, hy, hwy, hcy⟩ := ((HP.out.below HBq.out).below HN.out.below).at_ hlj
                obtain ⟨v0, v1, v2⟩ := wi_facts (HRl.out.lit y (List.mem_of_getElem? hy))
                have HY := Lib.hid hy
                cases had2
                clear hy hwy
                go_wp2_with (at_builtin; refine wpList_push rfl (.tmp 64) (.tmp 70) 32 rfl app32 w5.heap.size A0 j c0 ((negs (path.take j)).map (Value.int .i64)) rfl (HN.out.own.alloc _) _ (.int .i64 (-y)) rfl ((Blk.new _ 3 _).cell 0) rfl (by omega) (by omega) (by have := HN.out.below.size; simp; omega) ?_; intro A5 c5 w7 hown hgr hob; have HO := Lib.hid hown; have HG := Lib.hid hgr; clear hown hgr hob)
                go_roundw
                case rel =>
                  refine ⟨j + 1, A5, c5, by omega, by go_num, rfl, ?_, by rw [negs_snoc HY.out]; exact HO.out⟩
                  exact (HN.out.below.alloc HN.out.below.size _).grown HG.out (by have := HN.out.below.size; simp; omega) (fun g hg => (HN.out.own.lt g hg).1)
                case measure => simp [intOf]; omega
              · have HB4 := Lib.hid (HBq.out.trans (HN.out.below.mono HBq.out.size))
                have HO4 := Lib.hid (HOq.out.below HN.out.below)
                go_wp2_with (at_builtin; refine wpList_push rfl (.tmp 72) (.tmp 74) 22 rfl app22 w.heap.size A5 (n2 + n4) c5 (us2 ++ us4) rfl (HO4.out.alloc _) wr.heap.size (.slice A0 j c0) rfl ((Blk.new wr 32 _).cell 0) rfl (by omega) (by omega) (by have := HB4.out.size; simp; omega) ?_; intro A9 c9 w9 hown hgr hob; have HO9 := Lib.hid hown; have HG9 := Lib.hid hgr; clear hown hgr hob)
                go_ret
                refine ref_done HO9.out (fun u hu => ?_) (by omega) ((HB4.out.alloc HB4.out.size _).grown HG9.out (by have := HB4.out.size; simp; omega) (fun g hg => (HO4.out.lt g hg).1))
                rcases List.mem_append.1 hu with h1 | h1
                · exact H1q.out u h1
                · simp only [List.mem_singleton] at h1; rw [h1]; rfl
          · go_wp2_with (go_at_call 59; refine (HH.out _).mono ?_; rintro e w' ⟨rfl, rfl⟩)
            go_round
            case rel => exact ⟨v + 1, by omega, by omega, by go_num⟩
            case measure => simp [intOf]; omega
        · go_wp2_with (go_at_call 59; refine (HH.out _).mono ?_; rintro e w' ⟨rfl, rfl⟩)
          go_round
          case rel => exact ⟨v + 1, by omega, by omega, by go_num⟩
          case measure => simp [intOf]; omega
      · go_wp2
        have HN0 := Lib.hid (show NegRel wt (wt.alloc (.cells #[] 3)) path 0 (some ⟨wt.heap.size, 0, none⟩) 0 from ⟨(Below.refl _ _).alloc (Nat.le_refl _) _, Own.lit 3 #[] 0 (Nat.le_refl _) (by omega) rfl⟩)
        generalize (some (⟨wt.heap.size, 0, none⟩ : Addr)) = C0 at *
        go_loopw [11, 12] (fun s11 s12 w4 => ∃ (j : Nat) (A0 : Option Addr) (c0 : Nat), j ≤ pn ∧ s12 = .int .i64 j ∧ s11 = .slice A0 j c0 ∧ NegRel wt w4 path j A0 c0) (fun _ s12 _ => pn - (intOf s12).toNat)
        case atStart => exact ⟨0, _, 0, Nat.zero_le _, rfl, rfl, HN0.out⟩
        case round =>
          clear HN0
          obtain ⟨j, A0, c0, hj, rfl, rfl, hn⟩ := hrel
          have HN := Lib.hid hn
          have hn0c := hn.own.cap
          clear hn
          by_cases hlj : j < pn
          · obtain ⟨ad2, y, had2, _, hy, hwy, hcy⟩ := ((HP.out.below HBt.out).below HN.out.below).at_ hlj
            obtain ⟨v0, v1, v2⟩ := wi_facts (HRl.out.lit y (List.mem_of_getElem? hy))
            have HY := Lib.hid hy
            cases had2
            clear hy hwy
            go_wp2_with (at_builtin; refine wpList_push rfl (.tmp 64) (.tmp 70) 32 rfl app32 wt.heap.size A0 j c0 ((negs (path.take j)).map (Value.int .i64)) rfl (HN.out.own.alloc _) _ (.int .i64 (-y)) rfl ((Blk.new _ 3 _).cell 0) rfl (by omega) (by omega) (by have := HN.out.below.size; simp; omega) ?_; intro A5 c5 w7 hown hgr hob; have HO := Lib.hid hown; have HG := Lib.hid hgr; clear hown hgr hob)
            go_roundw
            case rel =>
              refine ⟨j + 1, A5, c5, by omega, by go_num, rfl, ?_, by rw [negs_snoc HY.out]; exact HO.out⟩
              exact (HN.out.below.alloc HN.out.below.size _).grown HG.out (by have := HN.out.below.size; simp; omega) (fun g hg => (HN.out.own.lt g hg).1)
            case measure => simp [intOf]; omega
          · have HB4 := Lib.hid (HBt.out.trans (HN.out.below.mono HBt.out.size))
            have HO4 := Lib.hid (HOt.out.below HN.out.below)
            go_wp2_with (at_builtin; refine wpList_push rfl (.tmp 72) (.tmp 74) 22 rfl app22 w.heap.size (some ⟨w.heap.size, 0, none⟩) 0 0 [] rfl (HO4.out.alloc _) wr.heap.size (.slice A0 j c0) rfl ((Blk.new wr 32 _).cell 0) rfl (by omega) (by omega) (by have := HB4.out.size; simp; omega) ?_; intro A9 c9 w9 hown hgr hob; have HO9 := Lib.hid hown; have HG9 := Lib.hid hgr; clear hown hgr hob)
            go_ret
            refine ref_done HO9.out (fun u hu => ?_) (by omega) ((HB4.out.alloc HB4.out.size _).grown HG9.out (by have := HB4.out.size; simp; omega) (fun g hg => (HO4.out.lt g hg).1))
            rcases List.mem_append.1 hu with h1 | h1
            · exact H1t.out u h1
            · simp only [List.mem_singleton] at h1; rw [h1]; rfl

theorem refute_all : ∀ k : Nat, k ≤ 18 → RefSaid k
  | 0, _ => fun _ _ _ _ _ _ _ _ _ _ _ _ _ _ _ _ _ _ _ hz => absurd hz (by omega)
  | k + 1, hk => refute_c k (by omega) (refute_all k (by omega))

/-- 'refute' from no decision. -/
theorem refute_top (K K' : Nat → Prop) (A : Option Addr) (n c : Nat) (f : List (List Int)) (nn : Nat) (pad : Addr) (pc : Nat) (w : World)
    (h : R2 w K A n c f) (hv : f.all (fun c => c.all (wi 16)) = true) (hnn : nn ≤ 16) (hp : R1 w K' (some pad) 0 pc []) :
    Calls Try.prog 40 #[.slice A n c, .int .i64 nn, .slice (some pad) 0 pc] w (RefPost w (2 ^ 18)) :=
  refute_all 18 (Nat.le_refl _) K K' A n c f nn pad 0 pc [] zeros w h hv hnn hp Rel.start (by rw [zc_zeros]; simp) (by rw [zc_zeros]; omega)

end Go.Proofs.Ytekbkdbmkjdgbaa
