/- language.Build at a tree of nodes. -/
import Derived.Test.YtjgkdfghjeodeaaGreatDoorT42
import Derived.Test.YtjgkdfghjeodeaaGreatDoorT44
namespace Go.Proofs.YtjgkdfghjeodeaaGreatDoor
open Go.RowKit

theorem info28 : (Tryz.prog.info? 28).map (fun i => (i.zero, i.size, i.bytes)) = some (some (.agg nil28), 3, 72) := by kernel_rfl
theorem made53 (n : Nat) : (madeCells nil28 (n * 3)).toList = List.replicate (3 * n) (.slice none 0 0) := by
  apply List.ext_getElem?
  intro j
  by_cases hj : j < n * 3
  · have h3 : j % 3 = 0 ∨ j % 3 = 1 ∨ j % 3 = 2 := by omega
    rw [List.getElem?_replicate, if_pos (by omega)]
    rcases h3 with h | h | h <;> simp [madeCells, hj, h]
  · rw [List.getElem?_replicate, if_neg (by omega)]
    simp [madeCells, hj]
theorem wpList_make53 {w : World} {ops : Array Oper} {rest : List Oper} {o : Oper} {a : Act} {Q : Exit → Act → World → Prop} (hgd : o.guard = none) (x y : Operand) (ho : o.op = .makeSlice 53 x y)
    (n : Nat) (hx : a.eval x = .int .i64 (n : Int)) (hy : a.eval y = .int .i64 (n : Int)) (hn : n ≤ 1000) (base : Nat) (hb : base ≤ w.heap.size)
    (h : ∀ w', OwnS w' base 28 3 (some ⟨w.heap.size, 0, none⟩) n n (List.replicate (3 * n) (.slice none 0 0)) → Below w.heap.size w w' → w.heap.size < w'.heap.size → wpList Tryz.prog ops Q rest (a.put o.dst (.slice (some ⟨w.heap.size, 0, none⟩) n n)) w') : wpList Tryz.prog ops Q (o :: rest) a w := by
  cases hi : Tryz.prog.info? 28 with
  | none => have := info28; rw [hi] at this; cases this
  | some i =>
    have h2 := info28
    rw [hi] at h2
    simp only [Option.map_some, Option.some.injEq, Prod.mk.injEq] at h2
    refine wpList_make_full w hgd x y 53 ho base 28 i (.agg nil28) 3 Tryz.underlying53 hi h2.1 h2.2.1 .i64 .i64 n n n hx hy rfl rfl (by rw [h2.2.2]; omega) (by unfold maxLen; omega) hb fun w' hown hgr => ?_
    have e : (madeCells (Value.agg nil28).cells (n * 3)).toList = List.replicate (3 * n) (.slice none 0 0) := made53 n
    rw [e] at hown
    exact h w' hown (below_grown (Below.refl _ _) hgr (Nat.le_refl _) (fun k e => by cases e)) (World.ownsRow.lt hown _ rfl).2
def flat3 (css : List (Array Value)) : List Value := css.flatMap (·.toList)
theorem flat3_cons (c : Array Value) (r : List (Array Value)) : flat3 (c :: r) = c.toList ++ flat3 r := rfl
theorem flat3_snoc (r : List (Array Value)) (c : Array Value) : flat3 (r ++ [c]) = flat3 r ++ c.toList := by simp [flat3]
abbrev nilS : Value := .slice none 0 0
theorem flat3_len : ∀ css : List (Array Value), (∀ cs ∈ css, cs.size = 3) → (flat3 css).length = 3 * css.length
  | [], _ => rfl
  | c :: r, h => by
    have h1 := h c List.mem_cons_self
    rw [flat3_cons, List.length_append, flat3_len r fun cs hc => h cs (List.mem_cons_of_mem _ hc), List.length_cons, Array.length_toList]; omega
theorem flat3_get : ∀ (css : List (Array Value)) (r : List Value) (j t : Nat) (cs : Array Value), (∀ cs ∈ css, cs.size = 3) → css[j]? = some cs → t < 3 → (flat3 css ++ r)[j * 3 + t]? = cs.toList[t]?
  | [], _, j, _, _, _, hj, _ => by simp at hj
  | c :: q, r, 0, t, cs, h, hj, ht => by
    have hj : c = cs := by simpa using hj
    subst hj
    have h1 := h c List.mem_cons_self
    rw [flat3_cons, List.append_assoc, List.getElem?_append_left (by rw [Array.length_toList, h1]; omega), Nat.zero_mul, Nat.zero_add]
  | c :: q, r, j + 1, t, cs, h, hj, ht => by
    have h1 := h c List.mem_cons_self
    rw [flat3_cons, List.append_assoc, List.getElem?_append_right (by rw [Array.length_toList, h1]; omega), Array.length_toList, h1, show (j + 1) * 3 + t - 3 = j * 3 + t by omega]
    exact flat3_get q r j t cs (fun cs hc => h cs (List.mem_cons_of_mem _ hc)) (by simpa using hj) ht
/-- what Build holds -/
structure BS (w wr : World) (gl n : Nat) (css : List (Array Value)) (ds : List Dfa) : Prop where
  below : Below w.heap.size w wr
  ret : Blk wr w.heap.size 28 nil28
  own : OwnS wr (w.heap.size + 1) 28 3 (some ⟨gl, 0, none⟩) n n (flat3 css ++ List.replicate (3 * (n - css.length)) nilS)
  len : css.length = ds.length
  z : ∀ cs ∈ css, cs.size = 3
  ok : ∀ j cs, css[j]? = some cs → RD wr (fun k => w.heap.size < k ∧ k ≠ gl) (.agg cs) (ds.getD j nil3)
theorem BS.lt {w wr : World} {gl n : Nat} {css : List (Array Value)} {ds : List Dfa} (h : BS w wr gl n css ds) : w.heap.size < gl ∧ gl < wr.heap.size := by
  have := h.own.lt gl rfl
  omega
theorem BS.step {w wr w' : World} {gl n : Nat} {css : List (Array Value)} {ds : List Dfa} (h : BS w wr gl n css ds) (hb : Below wr.heap.size wr w') : BS w w' gl n css ds :=
  ⟨h.below.trans (hb.mono h.below.size), h.ret.old hb, h.own.below hb, h.len, h.z, fun j cs hj => (h.ok j cs hj).below hb⟩
theorem BS.dl {w wr : World} {gl n : Nat} {css : List (Array Value)} {ds : List Dfa} (h : BS w wr gl n css ds) : DL wr (fun k => w.heap.size < k) ⟨gl, 0, none⟩ ds := fun j hj => by
  have hj2 : j < css.length := by rw [h.len]; exact hj
  have hz : css[j].size = 3 := h.z _ (List.getElem_mem hj2)
  refine ⟨css[j], hz, fun t v hv => ?_, h.lt.1, (h.ok j _ (List.getElem?_eq_getElem hj2)).weak fun k _ hk => hk.1⟩
  have ht : t < 3 := by have := (List.getElem?_eq_some_iff.1 hv).1; rwa [Array.length_toList, hz] at this
  obtain ⟨ad, e, _, hc⟩ := (h.own.sl (K := TT) fun _ _ => trivial) (j * 3 + t) v (by rw [flat3_get css _ j t _ h.z (List.getElem?_eq_getElem hj2) ht]; exact hv)
  cases e
  rw [add_of_add]
  exact hc
theorem BS.push {w wr w' : World} {gl n : Nat} {css : List (Array Value)} {ds : List Dfa} {cs : Array Value} {d : Dfa} (h : BS w wr gl n css ds) (hlt : css.length < n) (hz : cs.size = 3) (hd : RD wr (fun k => w.heap.size < k ∧ k ≠ gl) (.agg cs) d)
    (own : OwnS w' (w.heap.size + 1) 28 3 (some ⟨gl, 0, none⟩) n n ((flat3 css ++ List.replicate (3 * (n - css.length)) nilS).take (css.length * 3) ++ cs.toList ++ (flat3 css ++ List.replicate (3 * (n - css.length)) nilS).drop (css.length * 3 + 3))) (ho : Only gl wr w') : BS w w' gl n (css ++ [cs]) (ds ++ [d]) := by
  have hlt2 := h.lt
  have hfl := flat3_len css h.z
  have e : (flat3 css ++ List.replicate (3 * (n - css.length)) nilS).take (css.length * 3) ++ cs.toList ++ (flat3 css ++ List.replicate (3 * (n - css.length)) nilS).drop (css.length * 3 + 3) = flat3 (css ++ [cs]) ++ List.replicate (3 * (n - (css ++ [cs]).length)) nilS := by
    rw [List.take_append_of_le_length (by omega), List.take_of_length_le (by omega), List.drop_append, List.drop_of_length_le (by omega), List.nil_append, List.drop_replicate, flat3_snoc, List.length_append, hfl, List.length_singleton]
    rw [show 3 * (n - css.length) - (css.length * 3 + 3 - 3 * css.length) = 3 * (n - (css.length + 1)) by omega]
  rw [e] at own
  refine ⟨below_only h.below ho (by omega), h.ret.only ho (by omega), own, by simp [h.len], fun c hc => ?_, fun j c hj => ?_⟩
  · rcases List.mem_append.1 hc with h1 | h1
    · exact h.z c h1
    · rw [List.mem_singleton.1 h1]; exact hz
  · by_cases hjl : j < css.length
    · rw [List.getElem?_append_left hjl] at hj
      have e2 : (ds ++ [d]).getD j nil3 = ds.getD j nil3 := by
        rw [List.getD_eq_getElem?_getD, List.getElem?_append_left (by rw [← h.len]; exact hjl), ← List.getD_eq_getElem?_getD]
      rw [e2]
      exact (h.ok j c hj).old fun k hk _ => ho.block k hk.2
    · rw [List.getElem?_append_right (by omega)] at hj
      obtain ⟨h0, rfl⟩ := get_one hj
      have e2 : (ds ++ [d]).getD j nil3 = d := by
        rw [List.getD_eq_getElem?_getD, List.getElem?_append_right (by rw [← h.len]; omega), ← h.len, h0]; rfl
      rw [e2]
      exact hd.old fun k hk _ => ho.block k hk.2
set_option maxRecDepth 100000 in
set_option maxHeartbeats 12000000 in
theorem build_c (K : Nat → Prop) (A : Option Addr) (n c : Nat) (x : List Nd) (w : World) (hx : RX w K A n c x) (hg : GoodX x) (hn : n ≤ 200) (hT : Tab w) (hh : 0 < w.heap.size) : Calls Tryz.prog 5 #[.slice A n c] w (GD (buildD x) w) := by
  have hlen := hx.len
  have hcap := hx.cap
  have hpos : 0 < n := by rw [← hlen]; exact hg.pos
  obtain ⟨R, hR⟩ : ∃ R, buildD x = R := ⟨_, rfl⟩
  rw [hR]
  have HX := Lib.hid (And.intro hx hg)
  have HLen := Lib.hid hlen
  have HT := Lib.hid (And.intro hT hh)
  have HR := Lib.hid (show buildLoop (x.drop 0) [] = R from hR)
  clear hx hg hlen hT hh hR
  have hb28 : Tryz.prog.built 28 [] = some nil28 := by kernel_rfl
  go_enter Tryz.func5, Tryz.ntmps5
  go_upto_region 5 with (first
    | (with_reducible refine at_oper (.alloc 28) rfl ?_
       refine wpList_alloc_rowG w.heap.size rfl rfl 28 rfl _ zero28 ?_
       intro w1 k1 b1 s1
       have H1 := Lib.hid (And.intro k1 b1)
       clear k1 b1 s1)
    | (go_at_call 15
       refine (rvalid_c K A n c x w1 (HX.out.1.below H1.out.2) HX.out.2 hn).mono ?_
       rintro e w2 ⟨rfl, hb2⟩
       have H2 := Lib.hid (show Below w.heap.size w w2 ∧ Blk w2 w.heap.size 28 nil28 from ⟨H1.out.2.trans (hb2.mono H1.out.2.size), H1.out.1.old hb2⟩)
       clear hb2)
    | (with_reducible refine at_oper (.makeSlice 53 (.tmp 17) (.tmp 17)) rfl ?_
       refine wpList_make53 rfl (.tmp 17) (.tmp 17) rfl n rfl rfl (by omega) (w.heap.size + 1) H2.out.2.lt ?_
       intro w3 own3 b3 s3
       have H3 := Lib.hid (show BS w w3 w2.heap.size n [] [] from ⟨H2.out.1.trans (b3.mono H2.out.1.size), H2.out.2.old b3, by simpa [flat3] using own3, rfl, fun cs h => (by cases h), fun j cs h => (by simp at h)⟩)
       clear own3 b3 s3))
  clear H1 H2
  generalize w2.heap.size = gl at *
  go_wp2_with fail
  go_loopw [21] (fun s21 wr => ∃ (i : Nat) (css : List (Array Value)) (ds : List Dfa), i ≤ n ∧ s21 = vi i ∧ css.length = i ∧ (∀ d ∈ ds, VD d) ∧ buildLoop (x.drop i) ds = R ∧ BS w wr gl n css ds) (fun s21 _ => n - (intOf s21).toNat)
  case atStart => exact ⟨0, [], [], Nat.zero_le _, rfl, rfl, fun d h => (by cases h), HR.out, H3.out⟩
  case round =>
    clear H3
    obtain ⟨i, css, ds, hi, rfl, hci, hvd, hbl, hB⟩ := hrel
    have HB := Lib.hid (And.intro hci (And.intro hvd (And.intro hbl hB)))
    clear hci hvd hbl hB
    by_cases hlt : i < n
    · have d1 : decide ((i : Int) < n) = true := by simp; omega
      obtain ⟨nd, hxi⟩ : ∃ nd, x[i]? = some nd := ⟨_, List.getElem?_eq_getElem (by rw [HLen.out]; exact hlt)⟩
      have hok := HX.out.2.node i nd hxi
      obtain ⟨ad, rfl, _, hq⟩ := (HX.out.1.below HB.out.2.2.2.below).at_ hxi
      have HI := Lib.hid (And.intro hxi (And.intro hok hq))
      clear hxi hok hq
      go_upto_region 8 with (first
        | (with_reducible refine at_oper (.load 58 (.tmp 24)) rfl ?_
           refine wpList_load_nd rfl (.tmp 24) rfl (ad.add (i * 9)) rfl nd HI.out.2.2 ?_)
        | (with_reducible refine at_oper (.alloc 58) rfl ?_
           refine wpList_alloc_rowG wr.heap.size rfl rfl 58 rfl _ zero58 ?_
           intro w4 k4 b4 s4
           have H4 := Lib.hid (And.intro k4 b4)
           clear k4 b4 s4)
        | (with_reducible refine at_oper (.store 58 (.tmp 7) (.tmp 25)) rfl ?_
           refine wpList_store_blk rfl 58 (.tmp 7) (.tmp 25) rfl rfl wr.heap.size (ndc nd) _ 58 rfl rfl H4.out.1 (by rw [ndc_size]; exact size58) rfl (ndc_one nd) ?_
           intro w5 k5 o5
           have hz := HB.out.2.2.2.lt
           have hbs := HB.out.2.2.2.step H4.out.2
           have H5 := Lib.hid (show BS w w5 gl n css ds ∧ Blk w5 wr.heap.size 58 (ndc nd) from
             ⟨⟨below_only hbs.below o5 (by omega), hbs.ret.only o5 (by omega), hbs.own.only o5 (fun e => by have e : gl = wr.heap.size := Option.some.inj e; omega), hbs.len, hbs.z, fun j cs hj => ((HB.out.2.2.2.ok j cs hj).weak (K' := fun k => (w.heap.size < k ∧ k ≠ gl) ∧ k < wr.heap.size) fun k h1 h2 => ⟨h2, h1⟩).below H4.out.2 |>.old (fun k hk _ => o5.block k (by omega)) |>.weak fun k _ hk => hk.1⟩, k5⟩)
           clear k5 o5 hz hbs))
      clear H4
      have HZ := Lib.hid (show wr.heap.size < w5.heap.size from H5.out.2.lt)
      generalize wr.heap.size = gn at *
      have hnode := node_c _ nd ds ⟨gl, 0, none⟩ n n w5 (by rw [← H5.out.1.len, HB.out.1]; exact HI.out.2.1) H5.out.1.dl HB.out.2.1 (by rw [← H5.out.1.len, HB.out.1]; exact hi) (by omega) (Nat.le_refl _) (HT.out.1.mono HT.out.2 H5.out.1.below) (by have := H5.out.2.lt; omega)
      have hne := nodeD_err nd ds
      have hnv := nodeD_vd (l := ds) (n := nd) (by rw [← H5.out.1.len, HB.out.1]; exact HI.out.2.1) HB.out.2.1
      have hbl := HB.out.2.2.1
      rw [drop_cons_of HI.out.1, buildLoop] at hbl
      obtain ⟨ND, hND⟩ : ∃ ND, nodeD nd ds = ND := ⟨_, rfl⟩
      rw [hND] at hnode hne hnv hbl
      obtain ⟨rc, hrc⟩ : ∃ r, ND.2 = r := ⟨_, rfl⟩
      unfold GD at hnode
      rw [hrc] at hnode hne hnv hbl
      have HND := Lib.hid (And.intro hnode (And.intro hnv hbl))
      clear hnode hnv hbl hND hrc
      go_upto_region 9 with (first
        | (with_reducible refine at_oper (.load 58 (.tmp 7)) rfl ?_
           refine wpList_load_blk rfl 58 (.tmp 7) rfl gn rfl 58 (ndc nd) _ H5.out.2 Tryz.underlying58 rfl (by rw [ndc_size]; exact size58) ?_)
        | (go_at_call 16
           refine HND.out.1.mono ?_
           rintro e w6 ⟨v6, rfl, hd6, hb6⟩
           obtain ⟨c6, rfl, z6, o6⟩ := hd6.cells
           have H6 := Lib.hid (show BS w w6 gl n css ds ∧ RD w6 (fun k => w5.heap.size ≤ k) (.agg c6) ND.1 from ⟨H5.out.1.step hb6, hd6⟩)
           clear hd6 hb6)
        | (with_reducible refine at_oper (.alloc 28) rfl ?_
           refine wpList_alloc_rowG w6.heap.size rfl rfl 28 rfl _ zero28 ?_
           intro w7 k7 b7 s7
           have H7 := Lib.hid (And.intro k7 b7)
           clear k7 b7 s7)
        | (with_reducible refine at_oper (.store 28 (.tmp 8) (.tmp 30)) rfl ?_
           refine wpList_store_blk rfl 28 (.tmp 8) (.tmp 30) rfl rfl w6.heap.size c6 nil28 28 rfl rfl H7.out.1 (by rw [z6]; exact size28) (by rw [z6]; rfl) o6 ?_
           intro w8 k8 o8
           have hz := H6.out.1.lt
           have hbs := H6.out.1.step H7.out.2
           have hz5 := H5.out.1.lt
           have H8 := Lib.hid (show BS w w8 gl n css ds ∧ Blk w8 w6.heap.size 28 c6 ∧ RD w8 (fun k => w.heap.size < k ∧ k ≠ gl) (.agg c6) ND.1 from
             ⟨⟨below_only hbs.below o8 (by omega), hbs.ret.only o8 (by omega), hbs.own.only o8 (fun e => by have e : gl = w6.heap.size := Option.some.inj e; omega), hbs.len, hbs.z, fun j cs hj => ((H6.out.1.ok j cs hj).weak (K' := fun k => (w.heap.size < k ∧ k ≠ gl) ∧ k < w6.heap.size) fun k h1 h2 => ⟨h2, h1⟩).below H7.out.2 |>.old (fun k hk _ => o8.block k (by omega)) |>.weak fun k _ hk => hk.1⟩, k8,
              ((H6.out.2.weak (K' := fun k => (w.heap.size < k ∧ k ≠ gl) ∧ k < w6.heap.size) fun k h1 h2 => by have h2 : w5.heap.size ≤ k := h2; exact ⟨by omega, h1⟩).below H7.out.2 |>.old (fun k hk _ => o8.block k (by omega)) |>.weak fun k _ hk => hk.1)⟩)
           clear k8 o8 hz hbs hz5))
      clear H5 H6 H7 HZ
      generalize w6.heap.size = g6 at *
      rcases hne with rfl | rfl
      · have hbl := HND.out.2.2
        rw [if_pos rfl] at hbl
        have HBL := Lib.hid (And.intro hbl (HND.out.2.1 rfl))
        clear hbl
        go_wp2_with (first
          | (with_reducible refine at_oper (.load 28 (.tmp 8)) rfl ?_
             refine wpList_load_blk rfl 28 (.tmp 8) rfl g6 rfl 28 c6 _ H8.out.2.1 Tryz.underlying28 rfl (by rw [z6]; exact size28) ?_)
          | (with_reducible refine at_oper (.store 28 (.tmp 39) (.tmp 38)) rfl ?_
             refine wpList_store_own rfl 28 (.tmp 39) (.tmp 38) rfl rfl H8.out.1.own i hlt c6.toList (by rw [Array.length_toList, z6]) (fun u hu => by
               have h1 := o6
               rw [Array.all_eq_true'] at h1
               exact h1 u (by simpa using hu)) size28 ⟨gl, 0, none⟩ rfl (by rw [add0]; rfl) rfl ?_
             intro w9 own9 o9
             have hci := HB.out.1
             subst hci
             have H9 := Lib.hid (H8.out.1.push hlt z6 H8.out.2.2 own9 o9)
             clear own9 o9))
        go_roundw
        case rel =>
          refine ⟨css.length + 1, css ++ [c6], ds ++ [ND.1], by omega, by go_num, by rw [List.length_append]; rfl, fun d hd => ?_, HBL.out.1, H9.out⟩
          rcases List.mem_append.1 hd with h1 | h1
          · exact HB.out.2.1 d h1
          · rw [List.mem_singleton.1 h1]; exact HBL.out.2
        case measure => simp [intOf]; omega
      · have hbl := HND.out.2.2
        rw [if_neg (by decide)] at hbl
        have HBL := Lib.hid hbl
        clear hbl
        go_wp2_with (first
          | (with_reducible refine at_oper (.store 28 (.tmp 2) (.tmp 34)) rfl ?_
             refine wpList_store_blk rfl 28 (.tmp 2) (.tmp 34) rfl rfl w.heap.size nil28 nil28 28 rfl rfl H8.out.1.ret size28 rfl (by simp [Value.oneCell']) ?_
             intro w9 k9 o9
             have H9 := Lib.hid (And.intro k9 o9)
             clear k9 o9))
        refine bodyPost_ret (results_ct rfl _ _ _ rfl w.heap.size rfl 28 _ H9.out.1 Tryz.underlying28 rfl size28) rfl ?_
        rw [← HBL.out]
        exact gd_err rfl (below_only H8.out.1.below H9.out.2 (Nat.le_refl _))
    · have d1 : decide ((i : Int) < n) = false := by simp; omega
      obtain rfl : n = i := by omega
      have hbl := HB.out.2.2.1
      rw [List.drop_of_length_le (by rw [HLen.out]; exact Nat.le_refl _), buildLoop] at hbl
      obtain ⟨m, hm⟩ : ∃ m, n = m + 1 := ⟨n - 1, by omega⟩
      have hsub : (n : Int) - 1 = (m : Int) := by omega
      have hwm : IntKind.i64.wrap (m : Int) = (m : Int) := i64_wrap _ (by omega)
      have hmn : m < n := by omega
      have hdl : m < ds.length := by rw [← HB.out.2.2.2.len, HB.out.1]; exact hmn
      have hcl : m < css.length := by rw [HB.out.1]; exact hmn
      have hgl : ds.getLastD nil3 = ds.getD m nil3 := by
        have h1 : ds ≠ [] := fun h => by rw [h] at hdl; simp at hdl
        have h2 : ds.length = m + 1 := by rw [← HB.out.2.2.2.len, HB.out.1, hm]
        rw [List.getLastD_eq_getLast?, List.getLast?_eq_getElem?, h2, Nat.add_sub_cancel, List.getD_eq_getElem?_getD]
      rw [hgl] at hbl
      obtain ⟨c6, z6, hq, _, hrd⟩ := HB.out.2.2.2.dl m hdl
      rw [add0] at hq
      obtain ⟨c61, c62, c63, e6, o6⟩ : ∃ a b c, c6 = #[a, b, c] ∧ c6.all (·.oneCell') = true := by
        obtain ⟨cs, e, h1, h2⟩ := hrd.cells
        cases e
        obtain ⟨l⟩ := c6
        match l, h1 with
        | [a, b, c], _ => exact ⟨a, b, c, rfl, h2⟩
      clear e6
      have HQ := Lib.hid (And.intro hq (And.intro hrd hbl))
      clear hq hrd hbl hgl hcl
      go_wp2_with (first
        | (with_reducible refine at_oper (.load 28 (.tmp 45)) rfl ?_
           refine wpList_load_dfa rfl (.tmp 45) rfl ⟨gl, m * 3, none⟩ rfl c6 z6 HQ.out.1 ?_)
        | (with_reducible refine at_oper (.store 28 (.tmp 2) (.tmp 46)) rfl ?_
           refine wpList_store_blk rfl 28 (.tmp 2) (.tmp 46) rfl rfl w.heap.size c6 nil28 28 rfl rfl HB.out.2.2.2.ret (by rw [z6]; exact size28) (by rw [z6]; rfl) o6 ?_
           intro w9 k9 o9
           have H9 := Lib.hid (And.intro k9 o9)
           clear k9 o9))
      refine bodyPost_ret (results_ct rfl _ _ _ rfl w.heap.size rfl 28 _ H9.out.1 Tryz.underlying28 rfl (by rw [z6]; exact size28)) rfl ?_
      rw [← HQ.out.2.2]
      exact ⟨.agg c6, rfl, (HQ.out.2.1.old fun k hk _ => H9.out.2.block k (by omega)).weak fun k _ hk => by omega, below_only HB.out.2.2.2.below H9.out.2 (Nat.le_refl _)⟩
end Go.Proofs.YtjgkdfghjeodeaaGreatDoor
