/- The law TopLengthsCountWords: for every input it gives true and leaves its arguments as they were; the card ties the row's package variables to the program's text.
   Conditions: the row's own: readable arguments within the form's reach; the arguments and the package variables that the reading takes hold together at most 1048576 values and letters. -/
import Derived.Test.YtjgkdfghjeodeaaGreatDoorT50
import Derived.Test.YtjgkdfghjeodeaaGreatDoorT51
import Derived.Deep.SlicePairs
namespace Go.Proofs.YtjgkdfghjeodeaaGreatDoor
open Go.RowKit

/-- a tree of at most six nodes is handed back -/
def MaR (w : World) (e : Ending) (w' : World) : Prop := ∃ A' m c' x', e = .returned (.slice A' m c') ∧ m ≤ 6 ∧ GoodX x' ∧ RX w' TT A' m c' x' ∧ Below w.heap.size w w'
def slLen : Value → Nat
  | .slice _ n _ => n
  | _ => 0
theorem RXX.nil_ {w : World} {A : Option Addr} {c : Nat} : RXX w A 0 c 0 [] [] := ⟨rfl, rfl, Nat.zero_le _, Sl.nil_ _ _ _, fun j hj => absurd hj (by omega), Nat.le_refl _⟩
set_option maxRecDepth 100000 in
set_option maxHeartbeats 12000000 in
theorem made_c (n : Nat) : ∀ (A : Option Addr) (c : Nat) (l : List Nat) (w : World), n ≤ c → n ≤ 1048576 → l.length = n → (∀ x ∈ l, x < 256) → Sl w TT A (u8s l) → Calls Tryz.prog 6 #[.slice A n c, vi 6] w (MaR w) := by
  induction n using Nat.strongRecOn with
  | ind n ih =>
    intro A c l w hcap hn hl h256 hs
    have HS := Lib.hid (And.intro hl (And.intro h256 hs))
    have IH := Lib.hid ih
    clear hl h256 hs ih
    go_enter Tryz.func6, Tryz.ntmps6
    go_upto_region 2 with fail
    have H2 := Lib.hid (show Below w.heap.size w (w.alloc (.cells #[] 33)) ∧ Own (w.alloc (.cells #[] 33)) w.heap.size 33 (some ⟨w.heap.size, 0, none⟩) 0 0 [] from
      ⟨(Below.refl _ _).alloc (Nat.le_refl _) _, by have h := Own.lit (w := w) (base := w.heap.size) 33 #[] 0 (Nat.le_refl _) (by decide) rfl; simpa using h⟩)
    generalize w.alloc (.cells #[] 33) = w2 at *
    go_wp2_with fail
    go_loopw [5, 6] (fun s5 s6 wr => ∃ (i N : Nat) (A' : Option Addr) (c' : Nat) (us : List Value) (xs : List (List Nd)), i ≤ n ∧ s6 = vi i ∧ s5 = .slice A' N c' ∧ Below w.heap.size w wr ∧ RXX wr A' N c' i us xs ∧ (N = 0 → Own wr w.heap.size 33 A' 0 c' [])) (fun _ s6 _ => n - (intOf s6).toNat)
    case atStart => exact ⟨0, 0, _, _, [], [], Nat.zero_le _, rfl, rfl, H2.out.1, RXX.nil_, fun _ => H2.out.2⟩
    case round =>
      clear H2
      obtain ⟨i, N, A', c', us, xs, hi, rfl, rfl, hB⟩ := hrel
      have HB := Lib.hid hB
      have hNc := hB.2.1.cap
      have hNi := hB.2.1.many
      clear hB
      by_cases hlt : i < n
      · have d1 : decide ((i : Int) < n) = true := by simp; omega
        obtain ⟨b, hb⟩ : ∃ b, l[i]? = some b := ⟨_, List.getElem?_eq_getElem (by rw [HS.out.1]; exact hlt)⟩
        have hb2 : b < 256 := HS.out.2.1 b (List.mem_of_getElem? hb)
        obtain ⟨ad, rfl, _, hq⟩ := HS.out.2.2 i (.int .u8 b) (by simp [u8s, hb])
        have fi : wr.cell? (ad.add i) = some (.int .u8 b) := cell_below HB.out.1 hq
        clear hb hq
        go_wp2_with (first
          | (go_at_call 17
             refine (push_c A' N c' i b us xs wr HB.out.2.1 (by omega) hb2).mono ?_
             rintro e w3 ⟨N3, A3, c3, us3, xs3, rfl, r3, _, n3, _, b3⟩
             have H3 := Lib.hid (And.intro (HB.out.1.trans (b3.mono HB.out.1.size)) (And.intro r3 n3))
             clear r3 b3 n3))
        go_roundw
        case rel => exact ⟨i + 1, N3, A3, c3, us3, xs3, by omega, by go_num, rfl, H3.out.1, H3.out.2.1, fun h => by have := H3.out.2.2; omega⟩
        case measure => simp [intOf]; omega
      · have d1 : decide ((i : Int) < n) = false := by simp; omega
        obtain rfl : n = i := by omega
        by_cases h0 : N = 0
        · subst h0
          have hown := HB.out.2.2 rfl
          have HO := Lib.hid hown
          clear hown
          go_upto_region 8 with (first
            | (at_builtin
               refine wpList_push rfl (.tmp 24) (.tmp 27) 60 rfl app60 w.heap.size A' 0 c' [] rfl ((HO.out.alloc _).alloc _) (wr.heap.size + 1) (.slice (some ⟨wr.heap.size, 0, none⟩) 1 1) rfl ((blk_at (by simp) 33 _).1.cell 0) rfl (by omega) (by omega) (by rw [World.size_alloc, World.size_alloc]; have := HB.out.1.size; omega) ?_
               intro A4 c4 w4 own4 g4 _
               have hk4 := (((show Blk (wr.alloc (.cells (ndc ⟨2, 0, 0, 0, 0, some 0⟩) 58)) wr.heap.size 58 (ndc ⟨2, 0, 0, 0, 0, some 0⟩) from Blk.new wr 58 _).alloc _).grown g4 (fun e => by have := (HO.out.lt _ e).2; omega))
               have H4 := Lib.hid (show Below w.heap.size w w4 ∧ Own w4 w.heap.size 33 A4 1 c4 [.slice (some ⟨wr.heap.size, 0, none⟩) 1 1] ∧ Blk w4 wr.heap.size 58 (ndc ⟨2, 0, 0, 0, 0, some 0⟩) from
                 ⟨below_grown ((HB.out.1.alloc HB.out.1.size _).alloc (by rw [World.size_alloc]; have := HB.out.1.size; omega) _) g4 (by rw [World.size_alloc, World.size_alloc]; have := HB.out.1.size; omega) (fun k e => (HO.out.lt _ e).1), own4, hk4⟩)
               clear own4 g4 hk4))
          obtain ⟨ad, rfl, _, hq⟩ := (H4.out.2.1.sl (K := TT) fun _ _ => trivial) 0 _ rfl
          have f0 : w4.cell? ad = some (.slice (some ⟨wr.heap.size, 0, none⟩) 1 1) := hq
          have hc4 := H4.out.2.1.cap.1
          clear hq
          go_wp2_with fail
          refine wp_loop_rounds 1 ?_
          rw [rounds_succ]
          go_wp2_with fail
          go_ret
          exact ⟨_, 1, 1, _, rfl, by decide, GoodX.leaf 2 0 (.inr (.inl rfl)) (fun _ => rfl) (by decide), rx_one H4.out.2.2, H4.out.1⟩
        · have d2 : ((N : Int) == 0) = false := by rw [beq_eq_false_iff_ne]; omega
          have hN1 : 1 ≤ N := by omega
          have H6 := Lib.hid (And.intro HB.out.1 HB.out.2.1)
          clear HB
          go_wp2_with fail
          go_loopw [5] (fun s5 wz => ∃ (N T : Nat) (A' : Option Addr) (c' : Nat) (us : List Value) (xs : List (List Nd)), s5 = .slice A' N c' ∧ 1 ≤ N ∧ T + N ≤ 2 * n ∧ Below w.heap.size w wz ∧ RXX wz A' N c' T us xs) (fun s5 _ => slLen s5)
          case atStart => exact ⟨N, n, A', c', us, xs, rfl, hN1, by omega, H6.out⟩
          case round =>
            clear H6 hN1 d2 hNc hNi
            obtain ⟨N, T, A', c', us, xs, rfl, hN1, hTN, hB⟩ := hrel
            have HB := Lib.hid hB
            have hNc := hB.2.cap
            have hNT := hB.2.many
            clear hB
            by_cases hN2 : 1 < N
            · have d3 : decide ((N : Int) > 1) = true := by simp; omega
              go_wp2_with (first
                | (go_at_call 17
                   refine (push_c A' N c' T 5 us xs wr HB.out.2 (by omega) (by decide)).mono ?_
                   rintro e w3 ⟨N3, A3, c3, us3, xs3, rfl, r3, _, n3, m3, b3⟩
                   have hm3 := m3 rfl hN2
                   have H3 := Lib.hid (And.intro (HB.out.1.trans (b3.mono HB.out.1.size)) r3)
                   clear r3 b3 m3))
              go_roundw
              case rel => exact ⟨N3, T + 1, A3, c3, us3, xs3, rfl, n3, by omega, H3.out⟩
              case measure => simp [slLen]; omega
            · have d3 : decide ((N : Int) > 1) = false := by simp; omega
              obtain rfl : 1 = N := by omega
              obtain ⟨A1, c1, e1, r1, g1⟩ := HB.out.2.ok 0 (by decide)
              have hle := HB.out.2.le (j := 0) (by decide)
              obtain ⟨ad, rfl, _, hq⟩ := HB.out.2.sl 0 _ e1
              obtain ⟨x1, hx1⟩ : ∃ x, xs.getD 0 [] = x := ⟨_, rfl⟩
              rw [hx1] at r1 g1 hq hle
              obtain ⟨m, hm⟩ : ∃ m, x1.length = m := ⟨_, rfl⟩
              rw [hm] at r1 hq hle
              have hmc := r1.cap
              have f0 : wr.cell? ad = some (.slice A1 m c1) := hq
              have HR := Lib.hid (And.intro r1 g1)
              clear r1 g1 hq e1 hx1 hm
              by_cases h6 : m ≤ 6
              · have d4 : decide ((m : Int) > 6) = false := by simp; omega
                go_wp2_with fail
                go_ret
                exact ⟨A1, m, c1, x1, rfl, h6, HR.out.2, HR.out.1, HB.out.1⟩
              · have d4 : decide ((m : Int) > 6) = true := by simp; omega
                obtain ⟨h, hh⟩ : ∃ h, n / 2 = h := ⟨_, rfl⟩
                have q1 : Int.tdiv (n : Int) 2 = (h : Int) := by rw [Int.tdiv_eq_ediv_of_nonneg (by omega)]; omega
                have q2 : (n : Int) / 2 = (h : Int) := by omega
                have q3 : IntKind.i64.wrap (h : Int) = (h : Int) := i64_wrap _ (by omega)
                have hlt2 : h < n := by omega
                clear hh
                have hrec := IH.out h hlt2 A c (l.take h) wr (by omega) (by omega) (by rw [List.length_take, HS.out.1]; omega) (fun x hx => HS.out.2.1 x (List.mem_of_mem_take hx)) (by
                  have h2 := HS.out.2.2.old (Old.of_below HB.out.1)
                  intro j u hu
                  refine h2 j u ?_
                  unfold u8s at hu ⊢
                  rw [List.map_take] at hu
                  by_cases hj : j < h
                  · rwa [List.getElem?_take_of_lt hj] at hu
                  · rw [List.getElem?_eq_none (by rw [List.length_take]; omega)] at hu
                    cases hu)
                have HRec := Lib.hid hrec
                clear hrec
                go_wp2_with (first
                  | (go_at_call 6
                     refine HRec.out.mono ?_
                     rintro e w5 ⟨A5, m5, c5, x5, rfl, h5, g5, r5, b5⟩
                     have H5 := Lib.hid (And.intro h5 (And.intro g5 (And.intro r5 (HB.out.1.trans (b5.mono HB.out.1.size)))))
                     clear h5 g5 r5 b5))
                go_ret
                exact ⟨A5, m5, c5, x5, rfl, H5.out.1, H5.out.2.1, H5.out.2.2.1, H5.out.2.2.2⟩
end Go.Proofs.YtjgkdfghjeodeaaGreatDoor
namespace Go.Proofs.YtjgkdfghjeodeaaGreatDoor
open Go.RowKit

def GoodL (d : Dfa) (l : List Bool × List Bool) : Prop := (∀ n, memberL l n = lenF d n) ∧ (∀ n, l.1.length ≤ n → lenF d (n + l.2.length) = lenF d n) ∧ 1 ≤ l.2.length
theorem GoodL.low {d : Dfa} {l : List Bool × List Bool} (h : GoodL d l) (n : Nat) : lenF d n = true → ∃ i, i < l.1.length + l.2.length ∧ lenF d i = true := by
  induction n using Nat.strongRecOn with
  | ind n ih =>
    intro hn
    by_cases hlt : n < l.1.length + l.2.length
    · exact ⟨n, hlt, hn⟩
    · have h1 := h.2.2
      obtain ⟨m, hm⟩ : ∃ m, n = m + l.2.length := ⟨n - l.2.length, by omega⟩
      rw [hm, h.2.1 m (by omega)] at hn
      exact ih m (by omega) hn
theorem GoodL.least {d : Dfa} {l : List Bool × List Bool} (h : GoodL d l) (hv : VD d) {n : Nat} {ok : Bool} (hl : LeastIs d n ok) : optI (leastL l (l.1.length + l.2.length) 0) = if ok then (n : Int) else -1 := by
  have hs := leastL_spec l (l.1.length + l.2.length) 0
  cases hq : leastL l (l.1.length + l.2.length) 0 with
  | none =>
    rw [hq] at hs
    cases ok with
    | false => rfl
    | true =>
      obtain ⟨h1, _⟩ : HasLen d n ∧ ∀ k, k < n → ¬ HasLen d k := by simpa [LeastIs] using hl
      obtain ⟨i, hi, ht⟩ := h.low n ((lenF_iff hv n).2 h1)
      have := hs i (Nat.zero_le _) (by omega)
      rw [h.1, ht] at this
      cases this
  | some k =>
    rw [hq] at hs
    obtain ⟨h1, _, _, h2⟩ := hs
    have hk : HasLen d k := (lenF_iff hv k).1 (by rw [← h.1]; exact h1)
    cases ok with
    | false =>
      have h3 : ∀ k, ¬ HasLen d k := by simpa [LeastIs] using hl
      exact absurd hk (h3 k)
    | true =>
      obtain ⟨h3, h4⟩ : HasLen d n ∧ ∀ k, k < n → ¬ HasLen d k := by simpa [LeastIs] using hl
      have e1 : ¬ k < n := fun hlt => h4 k hlt hk
      have e2 : ¬ n < k := fun hlt => by
        have := h2 n (Nat.zero_le _) hlt
        rw [h.1, (lenF_iff hv n).2 h3] at this
        cases this
      have : k = n := by omega
      simp [optI, this]
theorem GoodL.has {d : Dfa} {l : List Bool × List Bool} (h : GoodL d l) (hv : VD d) (n : Nat) : memberL l n = decide ((countD d n : Int) > 0) := by
  rw [h.1]
  by_cases hc : 1 ≤ countD d n
  · rw [(lenF_iff hv n).2 ((count_pos hv n).1 hc)]
    exact (decide_eq_true (by omega)).symm
  · have hf : lenF d n = false := by
      cases hq : lenF d n with
      | false => rfl
      | true => exact absurd ((count_pos hv n).2 ((lenF_iff hv n).1 hq)) hc
    rw [hf]
    exact (decide_eq_false (by omega)).symm
theorem buildG_c (A : Option Addr) (n c : Nat) (x : List Nd) (w : World) (hx : RX w TT A n c x) (hg : GoodX x) (hn : n ≤ 6) (hT : Tab w) (hh : 0 < w.heap.size) : Calls Tryz.prog 5 #[.slice A n c] w
    fun e w' => ∃ cs er d, e = .returned (.tuple #[.agg cs, vi er]) ∧ cs.size = 3 ∧ cs.all (·.oneCell') = true ∧ RD w' TT (.agg cs) d ∧ (er = 0 ∧ VD d ∨ er = 2) ∧ Below w.heap.size w w' := by
  refine (build_c TT A n c x w hx hg (by omega) hT hh).mono ?_
  rintro e w' ⟨v, rfl, hd, hb⟩
  obtain ⟨cs, rfl, h1, h2⟩ := hd.cells
  refine ⟨cs, (buildD x).2, (buildD x).1, rfl, h1, h2, hd.weak fun _ _ _ => trivial, ?_, hb⟩
  rcases buildD_err x with he | he
  · exact .inl ⟨he, buildD_vd hg.node hg.pos he⟩
  · exact .inr he
theorem lofG_c (v : Value) (d : Dfa) (w : World) (hd : RD w TT v d) (hv : VD d) (hT : Tab w) (hh : 0 < w.heap.size) : Calls Tryz.prog 7 #[v] w
    fun e w' => ∃ cs er l, e = .returned (.tuple #[.agg cs, vi er]) ∧ cs.size = 2 ∧ cs.all (·.oneCell') = true ∧ (er = 0 ∧ RG w' TT (.agg cs) l ∧ GoodL d l ∨ er = 2) ∧ Below w.heap.size w w' := by
  refine (lof_c TT v d w hd hv hT hh).mono ?_
  rintro e w' ⟨h, p, u, hp, hper, _, hC, hb⟩
  cases hq : canonL ((List.range (h + p)).map (lenF d)) h p with
  | none =>
    rw [hq] at hC
    obtain ⟨rfl, rfl⟩ := hC
    exact ⟨_, 2, ([], []), rfl, rfl, by simp [Value.oneCell'], .inr rfl, hb⟩
  | some l =>
    rw [hq] at hC
    obtain ⟨rfl, hg⟩ := hC
    obtain ⟨cs, rfl, h1, h2⟩ := hg.cells
    have hc := canon_spec hp (fun n hn => lenF_per hper n hn) hq
    exact ⟨cs, 0, l, rfl, h1, h2, .inl ⟨rfl, hg.weak fun _ _ _ => trivial, hc.2.2.1, hc.2.2.2, hc.1⟩, hb⟩
theorem leastG_c (v : Value) (d : Dfa) (l : List Bool × List Bool) (n : Nat) (ok : Bool) (w : World) (hr : RG w TT v l) (hg : GoodL d l) (hv : VD d) (hl : LeastIs d n ok) : Calls Tryz.prog 10 #[v, vi 0] w fun e w' => e = .returned (.int .i64 (if ok then (n : Int) else -1)) ∧ Below w.heap.size w w' := by
  have h := lleast_c TT v l w hr
  rwa [hg.least hv hl] at h
set_option maxRecDepth 100000 in
set_option maxHeartbeats 8000000 in
theorem law_c (A : Option Addr) (n c : Nat) (l : List Nat) (b : Nat) (hb : b < 256) (w : World) (hnc : n ≤ c) (hn : n ≤ 1048576) (hl : l.length = n) (h256 : ∀ x ∈ l, x < 256) (hs : Sl w TT A (u8s l)) (hT : Tab w) (hh : 0 < w.heap.size) :
    Calls Tryz.prog 3 #[.slice A n c, .int .u8 b] w fun e w' => e = .returned (.bool true) ∧ Below w.heap.size w w' := by
  have HT := Lib.hid (And.intro hT (And.intro hh (And.intro hl (And.intro h256 hs))))
  obtain ⟨k, hk⟩ : ∃ k, b % 5 = k := ⟨_, rfl⟩
  have hk4 : k ≤ 4 := by omega
  have q1 : IntKind.i64.wrap (b : Int) = (b : Int) := by rw [IntKind.wrap_i64]; omega
  have q2 : IntKind.i64.wrap ((b : Int) % 5) = (k : Int) := by rw [IntKind.wrap_i64]; omega
  have q5 : (b : Int) % 5 = (k : Int) := by omega
  clear hT hh hl h256 hs hk
  go_enter Tryz.func3, Tryz.ntmps3
  go_upto_region 3 with (first
    | (go_at_call 4
       refine (sanity_c w HT.out.1 HT.out.2.1).mono ?_
       rintro e w1 ⟨rfl, hb⟩
       have H1 := Lib.hid hb
       clear hb)
    | (go_at_call 6
       refine (made_c n A c l w1 hnc hn HT.out.2.2.1 HT.out.2.2.2.1 (HT.out.2.2.2.2.old (Old.of_below H1.out))).mono ?_
       rintro e w2 ⟨A2, m, c2, x, rfl, hm, hg, hx, hb⟩
       have H2 := Lib.hid (show GoodX x ∧ RX w2 TT A2 m c2 x ∧ Below w.heap.size w w2 from ⟨hg, hx, H1.out.trans (hb.mono H1.out.size)⟩)
       clear hg hx hb)
    | (go_at_call 5
       refine (buildG_c A2 m c2 x w2 H2.out.2.1 H2.out.1 hm (HT.out.1.below HT.out.2.1 H2.out.2.2) (by have := H2.out.2.2.size; have := HT.out.2.1; omega)).mono ?_
       rintro e w3 ⟨cs, er, d, rfl, z, o, hd, hv, hb⟩
       have H3 := Lib.hid (show RD w3 TT (.agg cs) d ∧ (er = 0 ∧ VD d ∨ er = 2) ∧ Below w.heap.size w w3 from ⟨hd, hv, H2.out.2.2.trans (hb.mono H2.out.2.2.size)⟩)
       clear hd hv hb)
    | (with_reducible refine at_oper (.alloc 28) rfl ?_
       refine wpList_alloc_rowG w3.heap.size rfl rfl 28 rfl _ zero28 ?_
       intro w4 k4 b4 s4)
    | (with_reducible refine at_oper (.store 28 (.tmp 6) (.tmp 21)) rfl ?_
       refine wpList_store_blk rfl 28 (.tmp 6) (.tmp 21) rfl rfl w3.heap.size cs #[.slice none 0 0, .slice none 0 0, .slice none 0 0] 28 rfl rfl k4 (by rw [z]; exact size28) (by rw [z]; rfl) o ?_
       intro w5 k5 o5
       have b5 := below_only b4 o5 (Nat.le_refl _)
       have H5 := Lib.hid (show RD w5 TT (.agg cs) d ∧ Below w.heap.size w w5 ∧ Blk w5 w3.heap.size 28 cs from ⟨H3.out.1.below b5, H3.out.2.2.trans (b5.mono H3.out.2.2.size), k5⟩)
       clear b4 s4 k4 k5 o5 b5))
  clear H1 H2
  rcases H3.out.2.1 with ⟨he, hv⟩ | he
  · subst he
    have HV := Lib.hid hv
    clear hv H3
    go_upto_region 6 with (first
      | (with_reducible refine at_oper (.load 28 (.tmp 6)) rfl ?_
         refine wpList_load_blk rfl 28 (.tmp 6) rfl w3.heap.size rfl 28 cs _ H5.out.2.2 Tryz.underlying28 rfl (by rw [z]; exact size28) ?_)
      | (go_at_call 7
         refine (lofG_c (.agg cs) d w5 H5.out.1 HV.out (HT.out.1.below HT.out.2.1 H5.out.2.1) (by have := H5.out.2.1.size; have := HT.out.2.1; omega)).mono ?_
         rintro e w6 ⟨cl, er, r, rfl, zl, ol, hg, hb⟩
         have H6 := Lib.hid (show RD w6 TT (.agg cs) d ∧ Below w.heap.size w w6 ∧ Blk w6 w3.heap.size 28 cs ∧ (er = 0 ∧ RG w6 TT (.agg cl) r ∧ GoodL d r ∨ er = 2) from ⟨H5.out.1.below hb, H5.out.2.1.trans (hb.mono H5.out.2.1.size), H5.out.2.2.old hb, hg⟩)
         clear hg hb)
      | (with_reducible refine at_oper (.alloc 36) rfl ?_
         refine wpList_alloc_rowG w6.heap.size rfl rfl 36 rfl _ zero36 ?_
         intro w7 k7 b7 s7)
      | (with_reducible refine at_oper (.store 36 (.tmp 8) (.tmp 33)) rfl ?_
         refine wpList_store_blk rfl 36 (.tmp 8) (.tmp 33) rfl rfl w6.heap.size cl #[.slice none 0 0, .slice none 0 0] 36 rfl rfl k7 (by rw [zl]; exact size36) (by rw [zl]; rfl) ol ?_
         intro w8 k8 o8
         have b8 := below_only b7 o8 (Nat.le_refl _)
         have H8 := Lib.hid (show RD w8 TT (.agg cs) d ∧ Below w.heap.size w w8 ∧ Blk w8 w3.heap.size 28 cs ∧ (er = 0 ∧ RG w8 TT (.agg cl) r ∧ GoodL d r ∨ er = 2) ∧ Blk w8 w6.heap.size 36 cl from
           ⟨H6.out.1.below b8, H6.out.2.1.trans (b8.mono H6.out.2.1.size), H6.out.2.2.1.old b8, H6.out.2.2.2.imp (fun h => ⟨h.1, h.2.1.below b8, h.2.2⟩) id, k8⟩)
         clear b7 s7 k7 k8 o8 b8))
    clear H5 H6
    rcases H8.out.2.2.2.1 with ⟨he, hr, hg⟩ | he
    · subst he
      have HS := Lib.hid (show RD w8 TT (.agg cs) d ∧ Below w.heap.size w w8 ∧ Blk w8 w3.heap.size 28 cs ∧ RG w8 TT (.agg cl) r ∧ Blk w8 w6.heap.size 36 cl from ⟨H8.out.1, H8.out.2.1, H8.out.2.2.1, hr, H8.out.2.2.2.2⟩)
      have HG := Lib.hid hg
      clear hr hg H8
      obtain ⟨C, hC⟩ : ∃ C, countD d k = C := ⟨_, rfl⟩
      have HC := Lib.hid hC
      clear hC
      go_upto_region 11 with (first
        | (with_reducible refine at_oper (.load 28 (.tmp 6)) rfl ?_
           refine wpList_load_blk rfl 28 (.tmp 6) rfl w3.heap.size rfl 28 cs _ HS.out.2.2.1 Tryz.underlying28 rfl (by rw [z]; exact size28) ?_)
        | (go_at_call 8
           refine (count_c TT (.agg cs) d k w8 HS.out.1 HV.out hk4).mono ?_
           rw [HC.out]
           rintro e w9 ⟨rfl, hb⟩
           replace HS := Lib.hid (show RD w9 TT (.agg cs) d ∧ Below w.heap.size w w9 ∧ Blk w9 w3.heap.size 28 cs ∧ RG w9 TT (.agg cl) r ∧ Blk w9 w6.heap.size 36 cl from
             ⟨HS.out.1.below hb, HS.out.2.1.trans (hb.mono HS.out.2.1.size), HS.out.2.2.1.old hb, HS.out.2.2.2.1.below hb, HS.out.2.2.2.2.old hb⟩)
           clear hb)
        | (go_at_call 9
           refine (least_D_c TT (.agg cs) d w9 HS.out.1 HV.out (HT.out.1.below HT.out.2.1 HS.out.2.1) (by have := HS.out.2.1.size; have := HT.out.2.1; omega)).mono ?_
           rintro e w10 ⟨A10, n10, c10, ok, rfl, hn10, hli, hb⟩
           replace HS := Lib.hid (show RD w10 TT (.agg cs) d ∧ Below w.heap.size w w10 ∧ Blk w10 w3.heap.size 28 cs ∧ RG w10 TT (.agg cl) r ∧ Blk w10 w6.heap.size 36 cl from
             ⟨HS.out.1.below hb, HS.out.2.1.trans (hb.mono HS.out.2.1.size), HS.out.2.2.1.old hb, HS.out.2.2.2.1.below hb, HS.out.2.2.2.2.old hb⟩)
           have HL := Lib.hid hli
           clear hb hli))
      obtain ⟨q, hq⟩ : ∃ q, decide (0 < C) = q := ⟨_, rfl⟩
      have HM := Lib.hid (show memberL r k = q by rw [HG.out.has HV.out k, HC.out, ← hq]; simp)
      cases ok with
      | true =>
        go_wp2_with (first
          | (with_reducible refine at_oper (.load 36 (.tmp 8)) rfl ?_
             refine wpList_load_blk rfl 36 (.tmp 8) rfl w6.heap.size rfl 36 cl _ HS.out.2.2.2.2 Tryz.underlying36 rfl (by rw [zl]; exact size36) ?_)
          | (go_at_call 10
             refine (leastG_c (.agg cl) d r n10 true w10 HS.out.2.2.2.1 HG.out HV.out HL.out).mono ?_
             rw [if_pos rfl]
             rintro e w11 ⟨rfl, hb⟩
             replace HS := Lib.hid (show RD w11 TT (.agg cs) d ∧ Below w.heap.size w w11 ∧ Blk w11 w3.heap.size 28 cs ∧ RG w11 TT (.agg cl) r ∧ Blk w11 w6.heap.size 36 cl from
               ⟨HS.out.1.below hb, HS.out.2.1.trans (hb.mono HS.out.2.1.size), HS.out.2.2.1.old hb, HS.out.2.2.2.1.below hb, HS.out.2.2.2.2.old hb⟩)
             clear hb)
          | (go_at_call 11
             refine (hasAB_c q k (.agg cl) r w11 HS.out.2.2.2.1 (by omega) HM.out).mono ?_
             rintro e w12 ⟨rfl, hb⟩
             have HE := Lib.hid (show Below w.heap.size w w12 from HS.out.2.1.trans (hb.mono HS.out.2.1.size))
             clear hb)
          | (with_reducible refine wpList_unguard ?_ ?_ ?_
             rfl
             rfl))
        go_ret
        exact ⟨rfl, HE.out⟩
      | false =>
        go_wp2_with (first
          | (with_reducible refine at_oper (.load 36 (.tmp 8)) rfl ?_
             refine wpList_load_blk rfl 36 (.tmp 8) rfl w6.heap.size rfl 36 cl _ HS.out.2.2.2.2 Tryz.underlying36 rfl (by rw [zl]; exact size36) ?_)
          | (go_at_call 10
             refine (leastG_c (.agg cl) d r n10 false w10 HS.out.2.2.2.1 HG.out HV.out HL.out).mono ?_
             rw [if_neg Bool.false_ne_true]
             rintro e w11 ⟨rfl, hb⟩
             replace HS := Lib.hid (show RD w11 TT (.agg cs) d ∧ Below w.heap.size w w11 ∧ Blk w11 w3.heap.size 28 cs ∧ RG w11 TT (.agg cl) r ∧ Blk w11 w6.heap.size 36 cl from
               ⟨HS.out.1.below hb, HS.out.2.1.trans (hb.mono HS.out.2.1.size), HS.out.2.2.1.old hb, HS.out.2.2.2.1.below hb, HS.out.2.2.2.2.old hb⟩)
             clear hb)
          | (go_at_call 11
             refine (hasAB_c q k (.agg cl) r w11 HS.out.2.2.2.1 (by omega) HM.out).mono ?_
             rintro e w12 ⟨rfl, hb⟩
             have HE := Lib.hid (show Below w.heap.size w w12 from HS.out.2.1.trans (hb.mono HS.out.2.1.size))
             clear hb)
          | (with_reducible refine wpList_unguard ?_ ?_ ?_
             rfl
             rfl))
        go_ret
        exact ⟨rfl, HE.out⟩
    · subst he
      go_wp2_with (first
        | (with_reducible refine wpList_unguard ?_ ?_ ?_
           rfl
           rfl))
      go_ret
      exact ⟨rfl, H8.out.2.1⟩
  · subst he
    go_wp2_with (first
      | (with_reducible refine wpList_unguard ?_ ?_ ?_
         rfl
         rfl))
    go_ret
    exact ⟨rfl, H5.out.2.1⟩
end Go.Proofs.YtjgkdfghjeodeaaGreatDoor
namespace Go.Proofs.YtjgkdfghjeodeaaGreatDoor
open Go.ChangeShapes Go.WideShapes Go.ChangeAt Go.RowKit Go.Lib Go.Deep

theorem wf_u8 {x : Int} (h : (Lit.int .u8 x).wf = true) : 0 ≤ x ∧ x < 256 := by
  simp [Lit.wf, IntKind.min, IntKind.max, IntKind.signed, IntKind.bits] at h
  omega
theorem bulk_pos {H : Type} (d : DataW H) : 1 ≤ Rows.uptoBulk d := by
  cases d with
  | lit l => cases l <;> simp [Rows.uptoBulk]
  | nil => simp [Rows.uptoBulk]
  | ptr d => simp [Rows.uptoBulk]
  | slice elems spare => simp [Rows.uptoBulk]
  | agg parts => simp [Rows.uptoBulk]
  | iface t d => simp [Rows.uptoBulk]
  | map entries => simp [Rows.uptoBulk]
  | held h => simp [Rows.uptoBulk]
theorem bulk_len {H : Type} (l : List (DataW H)) : l.length ≤ Rows.uptoBulkAll l := by
  induction l with
  | nil => simp [Rows.uptoBulkAll]
  | cons x r ih => have := bulk_pos x; simp only [Rows.uptoBulkAll, List.length_cons]; omega
theorem rd22 {H : Type} {enc : TypeId × Value → H} {W : World} {v : Value} {y : DataW H × List MemPlace} {fuel : Nat} (hf : DataW.trod enc Tryz.prog W 0 (fun _ => true) true fuel 22 [v] = some y) (hb : Rows.uptoBulk y.1 ≤ 1048576) :
    ∃ A n c l, v = .slice A n c ∧ n ≤ c ∧ n ≤ 1048576 ∧ l.length = n ∧ (∀ x ∈ l, x < 256) ∧ Sl W TT A (u8s l) := by
  rcases open_ints Tryz.underlying22 Tryz.underlying5 Tryz.cells5 hf with ⟨hcs, _⟩ | ⟨a, len, cap, zs, hcs, _, hl, hm, hz, hx, hcell, hwz⟩
  · simp at hcs
    subst hcs
    exact ⟨none, 0, 0, [], rfl, Nat.le_refl _, by omega, rfl, fun _ h => by simp at h, Sl.nil_ _ _ _⟩
  · simp at hcs
    subst hcs
    simp only [if_true] at hz
    have hlen : len ≤ 1048576 := by
      rw [hx] at hb
      simp only [Rows.uptoBulk] at hb
      have h1 := bulk_len (lits (H := H) .u8 (zs.take len))
      simp [lits] at h1 hb
      omega
    refine ⟨some a, len, cap, (zs.take len).map Int.toNat, rfl, hl, hlen, by simp; omega, fun x hx => ?_, fun i y hy => ?_⟩
    · obtain ⟨z, hz1, rfl⟩ := List.mem_map.1 hx
      have := wf_u8 (hwz z (List.mem_of_mem_take hz1))
      omega
    · have hi : i < len := by
        have := (List.getElem?_eq_some_iff.1 hy).1
        simp only [u8s, List.length_map, List.length_take] at this
        omega
      refine ⟨a, rfl, trivial, ?_⟩
      have hiz : i < zs.length := by omega
      rw [hcell i hiz]
      have hw := wf_u8 (hwz zs[i] (List.getElem_mem hiz))
      simp only [u8s, List.map_map, List.getElem?_map] at hy
      rw [List.getElem?_take_of_lt hi, List.getElem?_eq_getElem hiz] at hy
      simp at hy
      have hmx : max zs[i] 0 = zs[i] := Int.max_eq_left hw.1
      rw [← hy, hmx]
      simp [hiz]
theorem args_again {H : Type} {enc : TypeId × Value → H} {W W' : World} (hb : Below W.heap.size W W') : ∀ {ts : List TypeId} {vs : List Value} {ds : List (DataW H)} {ps : List MemPlace}, (∀ t ∈ ts, Tryz.prog.readableRec t = true ∧ t < Tryz.prog.types.size) →
    DataW.TrodAll enc Tryz.prog W 0 (fun _ => true) true ts vs ds ps → (∀ x ∈ ps, x.block < W.heap.size) → DataW.TrodAll enc Tryz.prog W' 0 (fun b => decide (b < W.heap.size)) true ts vs ds ps
  | [], vs, ds, ps, _, h, _ => by
    obtain ⟨rfl, rfl, rfl⟩ := trodAll_nil h
    exact trodAll_mk0
  | t :: ts, vs, ds, ps, hr, h, hlt => by
    obtain ⟨v, vs', d, ds', p, q, rfl, rfl, rfl, h1, h2⟩ := trodAll_cons h
    obtain ⟨r1, r2⟩ := hr t List.mem_cons_self
    exact ⟨p, q, Below.trod Tryz.laidOut r1 r2 h1 hb (fun x hx => hlt x (List.mem_append_left _ hx)), args_again hb (fun t ht => hr t (List.mem_cons_of_mem _ ht)) h2 (fun x hx => hlt x (List.mem_append_right _ hx)), rfl⟩
set_option maxRecDepth 100000 in
theorem contract (H : Type) (enc : TypeId × Value → H) (W : World) (base : Nat) (args : Array Value) (ds gs : List (DataW H)) (before : List MemPlace)
    (hval : ∀ (j : Nat) t v, Tryz.f3.params[j]? = some t → args[j]? = some v → Value.okWide Tryz.prog W .any base t v)
    (hW : DataW.Whole enc Tryz.prog Tryz.f3.params.toList Rows.topLengthsCountWordsSpec.vars false W args.toList ds gs before) (hcond : Rows.uptoSmall H (ds ++ gs) = true) (hL : laidMetH Tryz.prog Rows.topLengthsCountWordsUptoRow.laid W) :
    Calls Tryz.prog 3 args W fun e W' => ∃ v, e = .returned v ∧ Rows.topLengthsCountWordsSpec.post enc Tryz.prog Tryz.f3 false true false false W args v W' := by
  have hT := tab_of_laid hL
  have hh : 0 < W.heap.size := lt_of_cell (hT 0 (by decide))
  have hW' := hW
  obtain ⟨p, q, hA0, hV, rfl, hfz, hnd⟩ := hW
  have hA : DataW.TrodAll enc Tryz.prog W 0 (fun _ => true) true Tryz.f3.params.toList args.toList ds p := hA0
  obtain ⟨rfl, rfl⟩ := trodVars_none hV
  have hA2 : DataW.TrodAll enc Tryz.prog W 0 (fun _ => true) true [22, 5] args.toList ds p := by
    have h := hA
    rw [Tryz.params3] at h
    exact h
  rw [Tryz.params3] at hval
  have hlt : ∀ x ∈ p, x.block < W.heap.size := fun x hx => hW'.lt x (by simpa using hx)
  have hA3 := hA2
  obtain ⟨v0, vs0, d0, ds0, p0, q0, hargs, rfl, rfl, h0, r0⟩ := trodAll_cons hA2
  obtain ⟨v1, vs1, d1, ds1, p1, q1, rfl, rfl, rfl, h1, r1⟩ := trodAll_cons r0
  obtain ⟨rfl, rfl, rfl⟩ := trodAll_nil r1
  obtain rfl : args = #[v0, v1] := by cases args; simp_all
  have hbulk := of_decide_eq_true hcond
  simp only [List.append_nil, Rows.uptoBulkAll] at hbulk
  obtain ⟨a0, len0, cap0, rfl⟩ := okWide_slice Tryz.underlying22 (hval 0 22 v0 rfl rfl)
  obtain ⟨fuel, hf⟩ := h0
  obtain ⟨A, n, c, l, he0, hnc, hn, hl, h256, hs⟩ := rd22 (y := (d0, p0)) hf (by show Rows.uptoBulk d0 ≤ 1048576; omega)
  rw [he0] at hW' hA3 ⊢
  obtain ⟨z, rfl, _, _, wz⟩ := open_int Tryz.underlying5 (hval 1 5 v1 rfl rfl) h1
  obtain ⟨z0, z1⟩ := wf_u8 wz
  obtain ⟨b, rfl⟩ := Int.eq_ofNat_of_zero_le z0
  refine (law_c A n c l b (by omega) W hnc hn hl h256 hs hT hh).mono ?_
  rintro e W' ⟨rfl, hb⟩
  refine ⟨_, rfl, _, [], _, [], p0 ++ (p1 ++ []), [], hW', ?_, ?_, ?_, hb.frame _, fun h => by cases h⟩
  · exact trodAll_mk1 (shut_bool Tryz.underlying4 true)
  · show DataW.TrodAll enc Tryz.prog W' 0 (fun b => decide (b < W.heap.size)) true Tryz.f3.params.toList _ _ _
    rw [Tryz.params3]
    exact args_again hb (by intro t ht; simp only [List.mem_cons, List.not_mem_nil, or_false] at ht; rcases ht with rfl | rfl <;> exact ⟨by kernel_rfl, of_decide_eq_true (by kernel_rfl)⟩) hA3 hlt
  · exact (rfl : DataW.TrodVars enc Tryz.prog W' _ [] [] [])
set_option maxRecDepth 100000 in
theorem lifted (os : Os) (started : os.Started) (H : Type) (enc : TypeId × Value → H) (F : Stop.Interp) :
    ReturnsInHanded {} Tryz.checked os 3 .any ((Rows.OpenSpec.upto Rows.topLengthsCountWordsSpec).preRow enc Tryz.prog Tryz.f3 Rows.topLengthsCountWordsUptoRow.domain false Rows.topLengthsCountWordsUptoRow.laid) (((Rows.OpenSpec.upto Rows.topLengthsCountWordsSpec).at F).post enc Tryz.prog Tryz.f3 false true false false) := by
  refine returnsInHanded_of_row (C := Tryz.checked) (s := Rows.OpenSpec.upto Rows.topLengthsCountWordsSpec) Tryz.own started (by kernel_rfl) Tryz.func3
    (witness_row_atRef (enc := enc) (C := Tryz.checked) false (laidWorld os) #[.slice none 0 0, .int .u8 0] rfl (by kernel_rfl) (by kernel_rfl) (by kernel_rfl) (witness_row os enc)) ?_
  intro W base args ds gs before hval hW _ hcond _ hL _ _
  exact contract H enc W base args ds gs before hval hW (hcond _ rfl) hL
theorem said_upto : Rows.TopLengthsCountWordsUptoSaid :=
  OpenClaim.holds_of_cond 3 Tryz.f3 rfl rfl rfl rfl rfl rfl rfl ⟨rfl, rfl, rfl, rfl, rfl⟩ rfl rfl rfl rfl rfl (by kernel_rfl) Tryz.func3 (by kernel_rfl)
    (of_decide_eq_true (by kernel_rfl)) (by unfold Func.isWrapper; rw [if_neg (of_decide_eq_false (by kernel_rfl))]; exact ⟨rfl, rfl⟩)
    (fun os started H enc _ F => by rw [OpenClaim.pre_eq_preRow]; exact lifted os started H enc F)
theorem plain (f : FuncId) (fn : Func) (hf : Tryz.pinned.checked.prog.funcNamed "univocal/univocaltop.TopLengthsCountWords" = some f) (hfn : Tryz.pinned.checked.prog.funcs[f]? = some fn) :
    true = Tryz.pinned.checked.prog.looks [] ∧ ∀ (j : Nat) t, fn.params[j]? = some t → Tryz.pinned.checked.prog.wantsStandIn t = false := by
  obtain rfl : f = 3 := Option.some.inj ((show Tryz.prog.funcNamed "univocal/univocaltop.TopLengthsCountWords" = some 3 by kernel_rfl).symm.trans hf) |>.symm
  obtain rfl : fn = Tryz.f3 := (Option.some.inj (Tryz.func3.symm.trans hfn)).symm
  refine ⟨by kernel_rfl, fun j t ht => ?_⟩
  rw [Tryz.params3] at ht
  have : t = 22 ∨ t = 5 := by simpa using Array.mem_of_getElem? ht
  rcases this with rfl | rfl
  · exact (show Tryz.prog.wantsStandIn 22 = false by kernel_rfl)
  · exact (show Tryz.prog.wantsStandIn 5 = false by kernel_rfl)
theorem top_card : Rows.TopLengthsCountWordsUptoCardSaid :=
  Claim7.holds_tied_plain_at .later [] _ _ _ _ said_upto (fun _ h => by cases h) (by kernel_rfl) (fun _ h => by cases h) topLengthsCountWordsUpto_row_tie rfl ⟨rfl, rfl⟩ (by kernel_rfl) rfl plain (by kernel_rfl)
#print axioms top_card
end Go.Proofs.YtjgkdfghjeodeaaGreatDoor
