/- Constructions give valid tables. -/
import Derived.Test.YtjgkdfghjeodeaaGreatDoorT8
import Derived.Test.YtjgkdfghjeodeaaGreatDoorT9
namespace Go.Proofs.YtjgkdfghjeodeaaGreatDoor

theorem idxK_lt {κ : Type} [DecidableEq κ] (k : κ) : ∀ (l : List κ) (i j : Nat), idxK k l i = some j → i ≤ j ∧ j < i + l.length
  | [], i, j, h => by cases h
  | x :: r, i, j, h => by
    rw [idxK] at h
    by_cases hx : x = k
    · rw [if_pos hx] at h; cases h; simp
    · rw [if_neg hx] at h
      have := idxK_lt k r (i + 1) j h
      simp; omega
theorem idxK_mem {κ : Type} [DecidableEq κ] (k : κ) : ∀ (l : List κ) (i : Nat), idxK k l i = none → k ∉ l
  | [], i, _ => by simp
  | x :: r, i, h => by
    rw [idxK] at h
    by_cases hx : x = k
    · rw [if_pos hx] at h; cases h
    · rw [if_neg hx] at h
      simp [Ne.symm hx, idxK_mem k r (i + 1) h]
/-- the list of states while it grows -/
structure LI (J : St → Prop) (most : Nat) (l : List St) : Prop where
  nd : l.Nodup
  j : ∀ s ∈ l, J s
  le : l.length ≤ most
theorem exRow_spec {J : St → Prop} {next : St → Nat → St} {most : Nat} {st : St} : ∀ (bs : List Nat) (l : List St) (row : List Nat), (∀ b ∈ bs, J (next st b)) → LI J most l → Lt l.length row →
    match exRow next most st bs l row with
    | some (l', row') => LI J most l' ∧ (∃ m, l' = l ++ m) ∧ row'.length = row.length + bs.length ∧ Lt l'.length row'
    | none => ∃ l', LI J most l' ∧ l'.length = most
  | [], l, row, _, hl, hr => by
    rw [exRow]
    exact ⟨hl, ⟨[], by simp⟩, by simp, hr⟩
  | b :: r, l, row, hb, hl, hr => by
    rw [exRow]
    cases hi : idxK (next st b) l 0 with
    | some id =>
      have h1 := idxK_lt _ _ _ _ hi
      have h2 := exRow_spec r l (row ++ [id]) (fun b' h' => hb b' (List.mem_cons_of_mem _ h')) hl (fun x hx => by
        rcases List.mem_append.1 hx with h | h
        · exact hr x h
        · simp at h; omega)
      simp only
      cases he : exRow next most st r l (row ++ [id]) with
      | none => rw [he] at h2; exact h2
      | some q =>
        rw [he] at h2
        exact ⟨h2.1, h2.2.1, by simp [h2.2.2.1]; omega, h2.2.2.2⟩
    | none =>
      have h1 := idxK_mem _ _ _ hi
      simp only
      by_cases hm : l.length = most
      · rw [if_pos hm]
        exact ⟨l, hl, hm⟩
      · rw [if_neg hm]
        have hl' : LI J most (l ++ [next st b]) := ⟨by
          rw [List.nodup_append]
          exact ⟨hl.nd, by simp, fun a ha c hc => by simp at hc; subst hc; exact fun e => h1 (e ▸ ha)⟩, fun s hs => by
          rcases List.mem_append.1 hs with h | h
          · exact hl.j s h
          · simp at h; rw [h]; exact hb b List.mem_cons_self, by have := hl.le; simp; omega⟩
        have h2 := exRow_spec r (l ++ [next st b]) (row ++ [l.length]) (fun b' h' => hb b' (List.mem_cons_of_mem _ h')) hl' (fun x hx => by
          rcases List.mem_append.1 hx with h | h
          · have := hr x h; simp; omega
          · simp at h; simp; omega)
        cases he : exRow next most st r (l ++ [next st b]) (row ++ [l.length]) with
        | none => rw [he] at h2; exact h2
        | some q =>
          rw [he] at h2
          obtain ⟨m, hm⟩ := h2.2.1
          exact ⟨h2.1, ⟨next st b :: m, by rw [hm, List.append_assoc]; rfl⟩, by simp [h2.2.2.1]; omega, h2.2.2.2⟩
/-- the loop's state -/
structure XI (J : St → Prop) (most nb i : Nat) (l : List St) (ns : List (List Nat)) (acs : List Bool) : Prop where
  li : LI J most l
  pos : 1 ≤ l.length
  le : i ≤ l.length
  nl : ns.length = i
  al : acs.length = i
  row : ∀ r ∈ ns, r.length = nb ∧ Lt l.length r
theorem exLoop_spec {J : St → Prop} {next : St → Nat → St} {accept : St → Bool} {most : Nat} {bytes : List Nat} (hj : ∀ s b, J s → b ∈ bytes → J (next s b)) (fin : ∀ l, LI J most l → l.length ≤ 4096) : ∀ (f i : Nat) (l : List St) (ns : List (List Nat)) (acs : List Bool), f + i = 5000 → XI J most bytes.length i l ns acs →
    match exLoop bytes next accept most f i l ns acs with
    | some (ns', acs') => ∃ l', XI J most bytes.length l'.length l' ns' acs'
    | none => ∃ l', LI J most l' ∧ l'.length = most
  | 0, i, l, ns, acs, hf, h => by
    have := fin l h.li
    have := h.le
    omega
  | f + 1, i, l, ns, acs, hf, h => by
    rw [exLoop]
    by_cases hi : i < l.length
    · rw [List.getElem?_eq_getElem hi]
      simp only
      have hs := h.li.j _ (List.getElem_mem hi)
      have h1 := exRow_spec (next := next) (most := most) (st := l[i]) bytes l [] (fun b hb => hj _ b hs hb) h.li (fun x hx => by simp at hx)
      cases he : exRow next most l[i] bytes l [] with
      | none => rw [he] at h1; exact h1
      | some q =>
        obtain ⟨l', row⟩ := q
        rw [he] at h1
        obtain ⟨g1, ⟨m, g2⟩, g3, g4⟩ := h1
        simp only
        refine exLoop_spec hj fin f (i + 1) l' (ns ++ [row]) _ (by omega) ⟨g1, by rw [g2, List.length_append]; have := h.pos; omega, by rw [g2, List.length_append]; omega, by simp [h.nl], by simp [h.al], fun r hr => ?_⟩
        rcases List.mem_append.1 hr with h2 | h2
        · have := h.row r h2
          exact ⟨this.1, fun x hx => by have := this.2 x hx; rw [g2, List.length_append]; omega⟩
        · simp at h2
          subst h2
          exact ⟨by simpa using g3, g4⟩
    · rw [List.getElem?_eq_none (by omega)]
      have : i = l.length := by have := h.le; omega
      exact ⟨l, by rw [← this]; exact h⟩
theorem explore_spec {J : St → Prop} {next : St → Nat → St} {accept : St → Bool} {most : Nat} {cell bytes : List Nat} {start : St} (h0 : J start) (hm : 1 ≤ most) (hj : ∀ s b, J s → b ∈ bytes → J (next s b)) (fin : ∀ l, LI J most l → l.length ≤ 4096) (hc : cell.length = 256) (hl : Lt bytes.length cell) :
    match explore cell bytes start next accept most 5000 with
    | some t => WT t
    | none => most ≤ 4096 := by
  have h1 := exLoop_spec (J := J) (next := next) (accept := accept) (most := most) (bytes := bytes) hj fin 5000 0 [start] [] [] rfl ⟨⟨by simp, fun s hs => by simp at hs; rw [hs]; exact h0, by simpa using hm⟩, by simp, by simp, rfl, rfl, fun r hr => by simp at hr⟩
  unfold explore
  cases he : exLoop bytes next accept most 5000 0 [start] [] [] with
  | none =>
    rw [he] at h1
    obtain ⟨l, h2, h3⟩ := h1
    have := fin l h2
    simp only [Option.map_none]
    omega
  | some q =>
    rw [he] at h1
    obtain ⟨l, h2⟩ := h1
    have := fin l h2.li
    simp only [Option.map_some]
    exact ⟨hc, hl, by show 1 ≤ q.1.length; rw [h2.nl]; exact h2.pos, by show q.1.length ≤ 4096; rw [h2.nl]; exact this, by show q.2.length = q.1.length; rw [h2.nl, h2.al], fun r hr => by
      have := h2.row r hr
      exact ⟨this.1, by show Lt q.1.length r; rw [h2.nl]; exact this.2⟩⟩
/-- 'joint' -/
theorem jtLoop_spec (a b : List Nat) : ∀ (f x : Nat) (keys : List (Nat × Nat)) (bytes cell : List Nat), f + x = 256 → keys.length = bytes.length → bytes.length ≤ x → cell.length = 256 → (∀ i, i < x → cell.getD i 0 < bytes.length) → Lt 256 bytes →
    (jtLoop a b f x keys bytes cell).1.length = 256 ∧ Lt (jtLoop a b f x keys bytes cell).2.length (jtLoop a b f x keys bytes cell).1 ∧ (jtLoop a b f x keys bytes cell).2.length ≤ 256 ∧ Lt 256 (jtLoop a b f x keys bytes cell).2
  | 0, x, keys, bytes, cell, hf, hk, hx, hc, hi, hb => by
    rw [jtLoop]
    refine ⟨hc, fun z hz => ?_, by show bytes.length ≤ 256; omega, hb⟩
    obtain ⟨i, hi2, rfl⟩ := List.getElem_of_mem hz
    have hi3 : i < cell.length := hi2
    have h2 := hi i (by omega)
    rw [List.getD_eq_getElem?_getD, List.getElem?_eq_getElem hi2] at h2
    exact h2
  | f + 1, x, keys, bytes, cell, hf, hk, hx, hc, hi, hb => by
    rw [jtLoop]
    cases he : idxK (a.getD x 0, b.getD x 0) keys 0 with
    | some id =>
      have h1 := idxK_lt _ _ _ _ he
      refine jtLoop_spec a b f (x + 1) keys bytes _ (by omega) hk (by omega) (by simp [hc]) (fun i h => ?_) hb
      by_cases hxi : x = i
      · subst hxi; simp [List.getD_eq_getElem?_getD, show x < cell.length by omega]; omega
      · have := hi i (by omega)
        simpa [List.getD_eq_getElem?_getD, List.getElem?_set, hxi] using this
    | none =>
      refine jtLoop_spec a b f (x + 1) _ (bytes ++ [x]) _ (by omega) (by simp [hk]) (by simp; omega) (by simp [hc]) (fun i h => ?_) (fun z hz => ?_)
      · by_cases hxi : x = i
        · subst hxi; simp [List.getD_eq_getElem?_getD, show x < cell.length by omega]
        · have := hi i (by omega)
          have h3 : (cell.set x bytes.length).getD i 0 = cell.getD i 0 := by simp [List.getD_eq_getElem?_getD, hxi]
          rw [h3, List.length_append]; exact Nat.lt_of_lt_of_le this (Nat.le_add_right ..)
      · rcases List.mem_append.1 hz with h | h
        · exact hb z h
        · simp at h; omega
theorem joint_spec (a b : List Nat) : (joint a b).1.length = 256 ∧ Lt (joint a b).2.length (joint a b).1 ∧ (joint a b).2.length ≤ 256 ∧ Lt 256 (joint a b).2 :=
  jtLoop_spec a b 256 0 [] [] _ rfl rfl (Nat.le_refl _) List.length_replicate (fun i h => by omega) (fun z hz => by simp at hz)
/-- a product's states -/
def JP (x y : Tbl) (s : St) : Prop := s.p < x.nxt.length ∧ s.q < y.nxt.length ∧ s.s = 0
theorem step_lt {x : Tbl} (h : WT x) {p b : Nat} (hp : p < x.nxt.length) (hb : b < 256) : (x.nxt.getD p []).getD (x.cell.getD b 0) 0 < x.nxt.length := by
  have hr := h.row _ (getD_mem' (d := []) hp)
  exact hr.2 _ (getD_mem' (by rw [hr.1]; exact getD_lt h.cl (by rw [h.cell]; exact hb)))
theorem jp_next {x y : Tbl} (hx : WT x) (hy : WT y) {s : St} {b : Nat} (h : JP x y s) (hb : b < 256) : JP x y (prodNext x y s b) := ⟨step_lt hx h.1 hb, step_lt hy h.2.1 hb, rfl⟩
theorem jp_fin {x y : Tbl} (hx : x.nxt.length ≤ 64) (hy : y.nxt.length ≤ 64) (l : List St) (hn : l.Nodup) (hl : ∀ s ∈ l, JP x y s) : l.length ≤ 4096 := by
  have h1 : (l.map fun s => s.p * 64 + s.q).Nodup := by
    rw [List.nodup_iff_pairwise_ne, List.pairwise_map]
    refine hn.imp_of_mem fun {a b} ha hb hab e => hab ?_
    obtain ⟨a1, a2, a3⟩ := hl a ha
    obtain ⟨b1, b2, b3⟩ := hl b hb
    have e1 : a.p = b.p := by omega
    have e2 : a.q = b.q := by omega
    cases a; cases b
    simp at *
    omega
  have h2 := nodup_le 4096 _ h1 fun z hz => by
    obtain ⟨s, hs, rfl⟩ := List.mem_map.1 hz
    obtain ⟨a1, a2, _⟩ := hl s hs
    omega
  simpa using h2
theorem product_spec {a b : Dfa} (ha : VD a) (hb : VD b) (h : Bool → Bool → Bool) : ∃ t, product a b h = some t ∧ WT t := by
  have wa := tableOf_wt ha
  have wb := tableOf_wt hb
  have hj := joint_spec (tableOf a).cell (tableOf b).cell
  have h1 := explore_spec (J := JP (tableOf a) (tableOf b)) (next := prodNext (tableOf a) (tableOf b)) (accept := fun s => h ((tableOf a).acc.getD s.p false) ((tableOf b).acc.getD s.q false)) (most := 1073741824) (start := ⟨0, 0, 0⟩) ⟨wa.pos, wb.pos, rfl⟩ (by decide) (fun s c hs hc => jp_next wa wb hs (hj.2.2.2 c hc)) (fun l hl => jp_fin ha.top hb.top l hl.nd hl.j) hj.1 hj.2.1
  unfold product
  simp only
  revert h1
  cases explore (joint (tableOf a).cell (tableOf b).cell).1 (joint (tableOf a).cell (tableOf b).cell).2 ⟨0, 0, 0⟩ (prodNext (tableOf a) (tableOf b)) (fun s => h ((tableOf a).acc.getD s.p false) ((tableOf b).acc.getD s.q false)) 1073741824 5000 with
  | none => intro h1; exact absurd h1 (by decide)
  | some t => intro h1; exact ⟨t, rfl, h1⟩
end Go.Proofs.YtjgkdfghjeodeaaGreatDoor
namespace Go.Proofs.YtjgkdfghjeodeaaGreatDoor
open Go.RowKit

theorem getD_drop {l : List Nat} {i : Nat} (h : i < l.length) : l.drop i = l.getD i 0 :: l.drop (i + 1) := by
  rw [List.drop_eq_getElem_cons h, List.getD_eq_getElem?_getD, List.getElem?_eq_getElem h]; rfl
theorem u8s_at {w : World} {K : Nat → Prop} {A : Option Addr} {l : List Nat} (h : Sl w K A (u8s l)) {k : Nat} (hk : k < l.length) : ∃ ad, A = some ad ∧ K ad.block ∧ w.cell? (ad.add k) = some (.int .u8 (l.getD k 0 : Nat)) := by
  obtain ⟨ad, e, hK, hc⟩ := h.at_ (k := k) (by simpa [u8s] using hk)
  refine ⟨ad, e, hK, ?_⟩
  rw [hc]; simp [u8s, hk]
theorem cells28 {w : World} {g : Nat} {A1 A2 A3 : Option Addr} {n1 n2 n3 c1 c2 c3 : Nat} (h : Blk w g 28 #[.slice A1 n1 c1, .slice A2 n2 c2, .slice A3 n3 c3]) : w.cell? ⟨g, 0, none⟩ = some (.slice A1 n1 c1) ∧ w.cell? ⟨g, 1, none⟩ = some (.slice A2 n2 c2) ∧ w.cell? ⟨g, 2, none⟩ = some (.slice A3 n3 c3) := ⟨h.cell 0, h.cell 1, h.cell 2⟩

theorem lt_rep (n k : Nat) (h : 0 < k) : Lt k (List.replicate n 0) := fun x hx => by
  rw [List.mem_replicate] at hx
  omega
theorem lt_set {k : Nat} {l : List Nat} (h : Lt k l) {x : Nat} (hx : x < k) (i : Nat) : Lt k (l.set i x) := fun y hy => by
  rcases List.mem_or_eq_of_mem_set hy with h1 | h1
  · exact h y h1
  · rw [h1]; exact hx
/-- the table under way: cell is the list of cells so far -/
structure TO (w wr : World) (d : Dfa) (cell : List Nat) (A2 A3 : Option Addr) (c2 c3 : Nat) : Prop where
  below : Below w.heap.size w wr
  tab : Blk wr (w.heap.size + 1 + 1) 73 (tcells ⟨cell, d.cls.length, d.nxt, d.acc⟩ A2 A3 c2 c3)
  res : Blk wr (w.heap.size + 1) 73 Tryz.zeroCells73
  len : cell.length = 256
  lt : Lt 1048577 cell
theorem TO.next {w wr w' : World} {d : Dfa} {cell : List Nat} {A2 A3 : Option Addr} {c2 c3 : Nat} (h : TO w wr d cell A2 A3 c2 c3) (hb : Below wr.heap.size wr w') : TO w w' d cell A2 A3 c2 c3 :=
  ⟨h.below.trans (hb.mono h.below.size), h.tab.old hb, h.res.old hb, h.len, h.lt⟩

set_option maxHeartbeats 1000000 in
theorem tableOf_c (K : Nat → Prop) (v : Value) (d : Dfa) (w : World) (hd : RD w K v d) (hv : VD d) (hT : Tab w) (hh : 0 < w.heap.size) : Calls Tryz.prog 23 #[v] w
    fun e w' => ∃ cs, e = .returned (.agg cs) ∧ RT w' K cs (tableOf d) ∧ Below w.heap.size w w' := by
  obtain ⟨A1, A2, A3, c1, c2, c3, rfl, hC, hR, hL⟩ := hd
  have HT := Lib.hid hT
  have HC := Lib.hid hC
  have HR := Lib.hid hR
  have HL := Lib.hid hL
  have HV := Lib.hid hv
  unfold dfaV
  obtain ⟨n, hn⟩ : ∃ n, d.cls.length = n := ⟨_, rfl⟩
  obtain ⟨n2, hn2⟩ : ∃ n2, d.nxt.length = n2 := ⟨_, rfl⟩
  obtain ⟨n3, hn3⟩ : ∃ n3, d.acc.length = n3 := ⟨_, rfl⟩
  have hcap := hC.cap
  have hbig : n ≤ 256 := hn ▸ hv.ctop
  rw [hn] at HC hcap
  have HN := Lib.hid (And.intro hn (And.intro hn2 hn3))
  rw [hn, hn2, hn3]
  clear hT hC hR hL hv hn hn2 hn3
  go_enter Tryz.func23, Tryz.ntmps23
  go_upto_region 1 with fail
  obtain ⟨b2, k1, k2⟩ := al2 w 28 73 #[.slice A1 n c1, .slice A2 n2 c2, .slice A3 n3 c3] Tryz.zeroCells73
  have s2 : ((w.alloc (.cells #[.slice A1 n c1, .slice A2 n2 c2, .slice A3 n3 c3] 28)).alloc (.cells Tryz.zeroCells73 73)).heap.size = w.heap.size + 1 + 1 := by simp
  generalize (w.alloc (.cells #[.slice A1 n c1, .slice A2 n2 c2, .slice A3 n3 c3] 28)).alloc (.cells Tryz.zeroCells73 73) = w2 at *
  obtain ⟨f1, f2, f3⟩ := cells28 k1
  have hZ := zset n A2 A3 n2 c2 n3 c3
  have hZs := tcz_size n A2 A3 n2 c2 n3 c3
  have hZo := tcz_one n A2 A3 n2 c2 n3 c3
  have K1 := Lib.hid k1
  have K2 := Lib.hid k2
  have B2 := Lib.hid b2
  have K3 := Lib.hid (s2 ▸ Blk.new w2 73 Tryz.zeroCells73)
  have HZ := Lib.hid (And.intro hZ (And.intro hZs hZo))
  clear hZ hZs hZo k1 k2 b2
  go_upto_region 2 with (first
    | (with_reducible refine at_oper (.store 73 (.tmp 3) (.tmp 15)) rfl ?_
       refine wpList_store_blk rfl 73 (.tmp 3) (.tmp 15) rfl rfl (w.heap.size + 1 + 1) (tcz n A2 A3 n2 c2 n3 c3) Tryz.zeroCells73 73 rfl (congrArg Value.agg HZ.out.1) K3.out (by rw [HZ.out.2.1]; exact size73) (by rw [HZ.out.2.1]; exact z73_size) HZ.out.2.2 ?_
       intro w4 k4 o4
       have K4 := Lib.hid k4
       have O4 := Lib.hid o4
       clear k4 o4 K3))
  have hto : TO w w4 d (List.replicate 256 0) A2 A3 c2 c3 := by
    have b3 := B2.out.trans (((Below.refl _ w2).alloc (Nat.le_refl _) (.cells Tryz.zeroCells73 73)).mono B2.out.size)
    refine ⟨below_only b3 O4.out (by omega), ?_, (K2.out.alloc _).only O4.out (by omega), List.length_replicate, lt_rep _ _ (by decide)⟩
    have := K4.out
    rw [← HN.out.1, ← HN.out.2.1, ← HN.out.2.2, tcz_tcells] at this
    exact this
  have k14 := (K1.out.alloc (.cells Tryz.zeroCells73 73)).only O4.out (by omega)
  have HTO := Lib.hid hto
  obtain ⟨f1, f2, f3⟩ := cells28 k14
  clear hto k14 HZ K4 O4 K1 K2 B2 s2
  generalize hZ : (((Tryz.zeroCells73.setIfInBounds 256 (Value.int IntKind.i64 (n : Int))).setIfInBounds 257 (Value.slice A2 n2 c2)).setIfInBounds 258 (Value.slice A3 n3 c3)) = Z at *
  clear hZ f2 f3
  have hfin := HV.out
  go_wp2_with fail
  go_loopw [19] (fun s19 wr => ∃ (i : Nat) (cell : List Nat), i ≤ n ∧ s19 = vi i ∧ cellsOf (d.cls.drop i) i cell = (tableOf d).cell ∧ TO w wr d cell A2 A3 c2 c3) (fun s19 _ => n - (intOf s19).toNat)
  case atStart => exact ⟨0, _, Nat.zero_le _, rfl, rfl, HTO.out⟩
  case round =>
    obtain ⟨i, cell, hi, rfl, hc, ht⟩ := hrel
    have HT1 := Lib.hid ht
    have HC1 := Lib.hid hc
    clear ht hc HTO f1
    by_cases hlt : i < n
    · have d1 : decide ((i : Int) < n) = true := by simp; omega
      obtain ⟨ad, rfl, _, hcell⟩ := (HC.out.below HT1.out.below).at_ hlt
      have HCell := Lib.hid hcell
      obtain ⟨c, hcc⟩ : ∃ c, d.cls.getD i 0 = c := ⟨_, rfl⟩
      rw [hcc] at HCell
      have HCc := Lib.hid hcc
      have hdr : d.cls.drop i = c :: d.cls.drop (i + 1) := hcc ▸ getD_drop (by rw [HN.out.1]; exact hlt)
      have HDr := Lib.hid hdr
      clear hcell hcc hdr
      go_upto_region 5 with (first
        | (with_reducible refine at_oper (.load 56 (.tmp 22)) rfl ?_
           refine wpList_load_class rfl (.tmp 22) rfl _ rfl c HCell.out ?_)
        | (with_reducible refine at_oper (.store 56 (.tmp 5) (.tmp 23)) rfl ?_
           refine wpList_store_fresh rfl 56 (.tmp 5) (.tmp 23) rfl rfl (ccells c) _ 56 rfl rfl size56 rfl (encC_one c) ?_
           intro w5 k5 b5 s5
           have K5 := Lib.hid k5
           have HT5 := Lib.hid (HT1.out.next b5)
           clear k5 b5))
      have HTab := Lib.hid (HT.out.below hh HT5.out.below)
      have hh5 : 0 < w5.heap.size := by omega
      have hcall := bytes_c c w5 HTab.out hh5
      have HI := Lib.hid (And.intro hi (And.intro HC1.out HDr.out))
      have hbl := bytesC_len c
      have hbm : ∀ x ∈ bytesC c, x < 256 := fun x hx => (mem_bytesC.1 hx).1
      have hci : ∀ l, setCells i (bytesC c) l = setCells i ((bytesC c).drop 0) l := fun l => rfl
      generalize hB : bytesC c = B at *
      clear HTab HCell
      go_wp2_with (first
        | (with_reducible refine at_oper (.load 56 (.tmp 5)) rfl ?_
           refine wpList_load_blk rfl 56 (.tmp 5) rfl wr.heap.size rfl 56 (ccells c) _ K5.out Tryz.underlying56 rfl size56 ?_)
        | (go_at_call 52
           refine hcall.mono ?_
           rintro e w6 ⟨v6, rfl, hv6, hb6⟩
           obtain ⟨AB, cB, rfl, hcB1, hcB2⟩ := own_slice hv6
           have HOB := Lib.hid hv6
           have HB6 := Lib.hid hb6
           have HT6 := Lib.hid (HT5.out.next hb6)
           clear hv6 hb6))
      have HTg := Lib.hid (And.intro hbl hbm)
      obtain ⟨m, hm⟩ : ∃ m, B.length = m := ⟨_, rfl⟩
      have hob : Own w6 w5.heap.size 5 AB B.length cB (u8s B) := HOB.out
      rw [hm] at hcB1 hbl
      have hloB : w.heap.size + 1 + 1 < w5.heap.size := HT5.out.tab.lt
      have HSl := Lib.hid (show Sl w6 (fun k => k ≠ w.heap.size + 1 + 1) AB (u8s B) from hob.sl fun g hg => by have := (hob.lt g hg).1; omega)
      rw [hm]
      have Hm := Lib.hid hm
      clear hm hcall hbm HOB HB6 HT5 hob
      go_loopw [27] (fun s27 wr => ∃ (j : Nat) (cell' : List Nat), j ≤ m ∧ s27 = vi j ∧ setCells i (B.drop j) cell' = setCells i B cell ∧ TO w wr d cell' A2 A3 c2 c3 ∧ Sl wr (fun k => k ≠ w.heap.size + 1 + 1) AB (u8s B)) (fun s27 _ => m - (intOf s27).toNat)
      case atStart => exact ⟨0, cell, Nat.zero_le _, rfl, rfl, HT6.out, HSl.out⟩
      case round =>
        clear HSl HT6 HT1
        obtain ⟨j, cell', hj, rfl, hsc, hto, hsl⟩ := hrel
        have HT7 := Lib.hid hto
        have HSc := Lib.hid hsc
        have HSl := Lib.hid hsl
        by_cases hlj : j < m
        · have d2 : decide ((j : Int) < m) = true := by simp; omega
          have hjB : j < B.length := by rw [Hm.out]; exact hlj
          obtain ⟨adb, rfl, hKb, hcb⟩ := u8s_at hsl hjB
          have hbb : B.getD j 0 < 256 := HTg.out.2 _ (getD_mem' hjB)
          have hdj := getD_drop hjB
          obtain ⟨b, hb0⟩ : ∃ b, B.getD j 0 = b := ⟨_, rfl⟩
          rw [hb0] at hcb hbb hdj
          have cb : wr.cell? ⟨w.heap.size + 1 + 1, b, none⟩ = some (vi (cell'.getD b 0)) := (hto.tab.cell b).trans (tcells_at hto.len hbb)
          have fb := hto.tab.frozen b
          have HN2 := Lib.hid (show TO w (wr.setCell ⟨w.heap.size + 1 + 1, b, none⟩ (vi i)) d (cell'.set b i) A2 A3 c2 c3 from
            ⟨hto.below.setCell (p := ⟨w.heap.size + 1 + 1, b, none⟩) (by simp; omega) _, by
              have := hto.tab.set_ b (vi i)
              rw [tcells_set _ _ _ _ _ hto.len hbb] at this
              exact this, hto.res.far (by simp) _, by rw [List.length_set]; exact hto.len, lt_set hto.lt (by omega) b⟩)
          have HSl2 := Lib.hid (show Sl (wr.setCell ⟨w.heap.size + 1 + 1, b, none⟩ (vi i)) (fun k => k ≠ w.heap.size + 1 + 1) (some adb) (u8s B) from hsl.old fun k hk _ => Below.heap_setCell wr ⟨w.heap.size + 1 + 1, b, none⟩ (vi i) k hk)
          have HSc2 := Lib.hid (show setCells i (B.drop (j + 1)) (cell'.set b i) = setCells i B cell by
            rw [← HSc.out, hdj]; rfl)
          clear hto hsc hsl hb0 hdj hjB hci
          go_wp2
          go_roundw
          case rel => exact ⟨j + 1, _, by omega, by go_num, HSc2.out, HN2.out, HSl2.out⟩
          case measure => simp [intOf]; omega
        · have d2 : decide ((j : Int) < m) = false := by simp; omega
          obtain rfl : j = m := by omega
          have HE := Lib.hid (show cell' = setCells i B cell by
            have := HSc.out
            rwa [List.drop_of_length_le (by rw [Hm.out]; exact Nat.le_refl _)] at this)
          clear hsl hto hsc hci
          go_wp2
          go_roundw
          case rel =>
            refine ⟨i + 1, cell', by omega, by go_num, ?_, HT7.out⟩
            have := HI.out.2.1
            rw [HI.out.2.2, cellsOf, hB, ← HE.out] at this
            exact this
          case measure => simp [intOf]; omega
    · have d1 : decide ((i : Int) < n) = false := by simp; omega
      obtain rfl : i = n := by omega
      have HE := Lib.hid (show cell = (tableOf d).cell by
        have := HC1.out
        rwa [List.drop_of_length_le (by rw [HN.out.1]; exact Nat.le_refl _)] at this)
      have HCt := Lib.hid (tcells_one ⟨cell, d.cls.length, d.nxt, d.acc⟩ A2 A3 c2 c3)
      obtain ⟨Y, hY⟩ : ∃ Y, tcells ⟨cell, d.cls.length, d.nxt, d.acc⟩ A2 A3 c2 c3 = Y := ⟨_, rfl⟩
      have HY := Lib.hid hY
      have HK3 := Lib.hid (hY ▸ HT1.out.tab)
      have HK2 := Lib.hid HT1.out.res
      have HYs := Lib.hid (show Y.size = 259 by rw [← hY]; simp [tcells, vis_len, HT1.out.len])
      rw [hY] at HCt
      clear hY
      go_wp2_with (first
        | (with_reducible refine at_oper (.load 73 (.tmp 3)) rfl ?_
           refine wpList_load_blk rfl 73 (.tmp 3) rfl (w.heap.size + 1 + 1) rfl 73 Y _ HK3.out Tryz.underlying73 rfl (by rw [HYs.out]; exact size73) ?_)
        | (with_reducible refine at_oper (.store 73 (.tmp 2) (.tmp 37)) rfl ?_
           refine wpList_store_blk rfl 73 (.tmp 2) (.tmp 37) rfl rfl (w.heap.size + 1) Y Tryz.zeroCells73 73 rfl rfl HK2.out (by rw [HYs.out]; exact size73) (by rw [HYs.out]; exact z73_size) HCt.out ?_
           intro w9 k9 o9
           have K9 := Lib.hid k9
           have O9 := Lib.hid o9
           clear k9 o9))
      refine bodyPost_ret (results_cell rfl _ _ (w.heap.size + 1) rfl 73 _ K9.out Tryz.underlying73 rfl (by rw [HYs.out]; exact size73)) rfl ?_
      have hb9 := below_only HT1.out.below O9.out (by omega)
      refine ⟨Y, rfl, ⟨A2, A3, c2, c3, ?_, ?_, ?_, ?_, HR.out.below hb9, HL.out.below hb9⟩, hb9⟩
      · rw [← HY.out]
        have : tableOf d = ⟨cell, d.cls.length, d.nxt, d.acc⟩ := by rw [HE.out]; rfl
        rw [this]
      · rw [← HE.out]; exact HT1.out.len
      · show d.cls.length ≤ _
        rw [HN.out.1]; omega
      · rw [← HE.out]; exact HT1.out.lt
end Go.Proofs.YtjgkdfghjeodeaaGreatDoor
