/- class.members, Least, Bytes: over the iterator. -/
import Derived.Test.YtjgkdfghjeodeaaGreatDoorT6
import Derived.Test.YtjgkdfghjeodeaaGreatDoorT7
namespace Go.Proofs.YtjgkdfghjeodeaaGreatDoor
open Go.RowKit Go.Shelf
attribute [local go_sem] Oper.semAt_some

/-- a whole value is read, inside a fence -/
theorem wpListIn_load_blk {F : Fence} {n : Nat} {P : Program} {ops : Array Oper} {rest : List Oper} {o : Oper} {a : Act} {w : World} {Q : Exit → Act → World → Prop} (hgd : o.guard = none) (ty : TypeId) (x : Operand) (ho : o.op = .load ty x)
    (g : Nat) (hx : a.eval x = .pointer (some ⟨g, 0, none⟩)) (t : TypeId) (cs : Array Value) (d : TypeDesc) (hg : Blk w g t cs)
    (hu : P.underlying ty = some d) (hd : (match d with | .struct _ | .array _ _ => true | _ => false) = true) (hi : (P.info? ty).map (·.size) = some cs.size)
    (h : wpListIn F n P ops Q rest (a.put o.dst (.agg cs)) w) : wpListIn F n P ops Q (o :: rest) a w := by
  refine wpListIn_plain hgd fun K hK' => ?_
  have hv := run_loadVar_row w g t ty cs (0, 0) d hg hu hd hi
  unfold Oper.wpIn
  refine ⟨?_, ?_⟩
  · simp [Oper.about, ho]
  · rw [Oper.semAt_plain F _ _ (by rw [ho]; intro c hc'; cases hc')]
    simp only [execOp, ho, hx, Instr.loadAt, Instr.sureAddr, Sem.run_bind, Sem.run_pure, Result.andThen_ok, hv]
    exact hK' _ _ h

theorem members_c (c : Nat) (w : World) : Calls Tryz.prog 103 #[encC c] w fun e w' => e = .returned (.func (.func 119) #[] #[.pointer (some ⟨w.heap.size, 0, none⟩)]) ∧ w' = w.alloc (.cells (ccells c) 56) := by
  unfold encC
  obtain ⟨A, hA⟩ : ∃ A, ccells c = A := ⟨_, rfl⟩
  rw [hA]
  go_enter Tryz.func103, Tryz.ntmps103
  go_wp2
  go_ret
  exact ⟨rfl, rfl⟩
theorem members_stops (n : Nat) (hn : 2 ≤ n) (Bn n₀ : Nat) (h0n : 0 < n₀) (c : Nat) (w : World) (hBn : Blk w Bn 56 (ccells c)) (hT : Tab w) (hh : 0 < w.heap.size) :
    SeqStopsK Fence.wide n Tryz.prog 119 #[.pointer (some ⟨Bn, 0, none⟩)] (fun x : B8 => #[encB x]) (Below n₀) (fun ys => vals ys = bytesC c) (fun pre => vals pre <+: bytesC c) 256 w := fun l J Jx W hW _ _ hY h0 =>
  members1_in n hn l Bn n₀ h0n c J Jx hY W ((hW.block _ hBn.lt).trans hBn) (hT.below hh hW) h0

/-- class.Least -/
def leastI (c : Nat) : Int := match bytesC c with
  | [] => -1
  | b :: _ => (b : Int)
set_option maxRecDepth 100000 in
set_option maxHeartbeats 2000000 in
theorem least_in (n : Nat) (hn : 4 ≤ n) (c : Nat) (w : World) (hT : Tab w) (hh : 0 < w.heap.size) : CallsIn Fence.wide n Tryz.prog 77 #[encC c] w (Gives w (.int .i64 (leastI c))) := by
  have h1 : 1 ≤ n := by omega
  refine callsIn_of_wp_marks Tryz.func77 rfl trivial ?_ rfl
  simp only [Tryz.ntmps77, List.size_toArray, List.length_cons, List.length_nil, Nat.reduceAdd, Nat.reduceSub, Array.replicate_succ, Array.replicate_zero, List.push_toArray, List.append_toArray, List.nil_append, List.cons_append]
  have hw103 : Fence.wide.fn 103 := trivial
  have hn1 : 1 ≤ n - 1 := by omega
  have hcall := members_c c
  have hst := fun Bn n₀ h0n W hB hT hh => members_stops (n - 1) (by omega) Bn n₀ h0n c W hB hT hh
  unfold encC at *
  have HT := Lib.hid hT
  clear hT
  have k0 := Blk.new w 56 (ccells c)
  have K0 := Lib.hid k0
  have hB0 := Lib.hid ((((Below.refl _ w).alloc (Nat.le_refl _) (.cells (ccells c) 56)).alloc (by simp) (.cells #[.int .i64 0] 3)).alloc (by simp; omega) (.cells (ccells c) 56))
  have K1 := Lib.hid (k0.alloc (.cells #[.int .i64 0] 3))
  have b2 := Lib.hid (Boxed.new (w.alloc (.cells (ccells c) 56)) 3 (.int .i64 0))
  have k3 := Lib.hid (Blk.new ((w.alloc (.cells (ccells c) 56)).alloc (.cells #[.int .i64 0] 3)) 56 (ccells c))
  clear k0
  have HS := Lib.hid (show (ccells c).size = 4 from rfl)
  generalize ccells c = A at *
  gi_wp2_with (first
    | (refine wpListIn_load_blk rfl 56 (.tmp 1) rfl w.heap.size rfl 56 A _ K1.out Tryz.underlying56 rfl (by rw [HS.out]; exact size56) ?_)
    | (gi_at_call 103
       refine ((callsIn_wide (n := n - 1)).2 (hcall _)).mono ?_
       rintro e w' ⟨rfl, rfl⟩)
    | gi_in)
  have hc1 := b2.out.cell
  have hf1 := b2.out.frozen
  simp only [World.size_alloc] at hc1 hf1
  have hb := hB0.out
  have hk := k3.out
  simp only [World.size_alloc] at hk
  have hT3 := HT.out.below hh hb
  generalize hW3 : ((w.alloc (.cells A 56)).alloc (.cells #[.int .i64 0] 3)).alloc (.cells A 56) = W3 at *
  have hsz : W3.heap.size = w.heap.size + 3 := by rw [← hW3]; simp
  have hc3 : W3.cell? ⟨w.heap.size + 1, 0, none⟩ = some (.int .i64 0) := by rw [← hW3]; exact cell_kept hc1 (World.grownBy_alloc _ _ none) (fun r e => by cases e)
  have hf3 : W3.frozen? ⟨w.heap.size + 1, 0, none⟩ = false := by rw [← hW3]; exact (frozen_kept hc1 (World.grownBy_alloc _ _ none) (fun r e => by cases e)).trans hf1
  clear hc1 hf1 K0 K1 b2 k3 hB0 hcall hW3
  refine wpIn_rangeFunc_ownF rfl h1 (gf := 119) (lb := #[.pointer (some ⟨w.heap.size + 1 + 1, 0, none⟩)]) rfl trivial (enters_of Tryz.func119 (by kernel_rfl) rfl)
    (hst (w.heap.size + 1 + 1) w.heap.size hh W3 hk hT3 (by omega)) belowK_t (belowK_b (by omega)) (Below.refl _ _) (fun _ => rfl)
    (fun pre W => (pre = [] ∧ W.cell? ⟨w.heap.size + 1, 0, none⟩ = some (.int .i64 0) ∧ W.frozen? ⟨w.heap.size + 1, 0, none⟩ = false) ∧ Below w.heap.size w W)
    (fun c pre W => (c = .ret ∧ ∃ b : B8, pre = [b] ∧ W.cell? ⟨w.heap.size + 1, 0, none⟩ = some (.int .i64 b.1)) ∧ Below w.heap.size w W)
    (OwnFrom.and (Own.from (fun s A B row hs hg hr => ⟨hs.1, cell_kept hs.2.1 hg hr, (frozen_kept hs.2.1 hg hr).trans hs.2.2⟩) _) (ownFrom_below (Nat.le_refl _) (by omega)))
    (fun c => OwnFrom.and (Own.from (fun s A B row hs hg hr => ⟨hs.1, hs.2.choose, hs.2.choose_spec.1, cell_kept hs.2.choose_spec.2 hg hr⟩) _) (ownFrom_below (Nat.le_refl _) (by omega)))
    ⟨⟨rfl, hc3, hf3⟩, hb⟩
    (fun x => { tmps := #[.agg A, .pointer (some ⟨w.heap.size, 0, none⟩), .pointer (some ⟨w.heap.size + 1, 0, none⟩), encB x, .agg A, .func (.func 119) #[] #[.pointer (some ⟨w.heap.size + 1 + 1, 0, none⟩)], encB x, undef, undef], defers := [] }) ?assign ?body ?done ?stop
  case assign =>
    intro l x W K hK
    gi_wp2
    exact hK
  case body =>
    rintro l pre x W ⟨⟨rfl, hcr, hfr⟩, hB⟩ _
    have hx := x.2
    have hwx : IntKind.i64.wrap (x.1 : Int) = (x.1 : Int) := i64_wrap _ (by omega)
    gi_wp2
    exact ⟨KeepsOthers.setCell _ _ _, ⟨rfl, x, rfl, World.cell?_setCell_same' _ _ _ (by rw [hcr]; rfl)⟩, hB.setCell (p := ⟨w.heap.size + 1, 0, none⟩) (by simp) _⟩
  case done =>
    rintro D ys W hD hys ⟨⟨rfl, hcr, hfr⟩, hB⟩ hK
    have hl : leastI c = -1 := by
      unfold leastI
      rw [← hys]; rfl
    gi_wp2
    have hK' := (KeepsOthers.setCell W ⟨w.heap.size + 1, 0, none⟩ (.int .i64 (-1))).same D _ hK rfl
    refine ⟨by simp, .inl ⟨_, _, rfl, run_takeDeferred hK', ?_⟩⟩
    have hc5 := cell_kept (World.cell?_setCell_same' W ⟨w.heap.size + 1, 0, none⟩ (.int .i64 (-1)) (by rw [hcr]; rfl)) (grownBy_putObj' _ D (.deferred none)) (fun r e => by cases e; exact ⟨_, hK', rfl⟩)
    refine ⟨.int .i64 (-1), ?_, by rw [hl], (hB.setCell (p := ⟨w.heap.size + 1, 0, none⟩) (by simp) _).trans (belowK_b (w := w) (Nat.le_refl _) _ D _ _ (by omega) hK' rfl rfl)⟩
    simp [results, Tryz.f77, go_sem, hc5]
  case stop =>
    rintro D c' pre W hD hpre ⟨⟨rfl, b, rfl, hcr⟩, hB⟩ hK
    have hl : leastI c = (b.1 : Int) := by
      obtain ⟨r, hr⟩ := hpre
      unfold leastI
      rw [← hr]; rfl
    gi_wp2
    refine ⟨by simp, .inl ⟨_, _, rfl, run_takeDeferred hK, ?_⟩⟩
    have hc5 := cell_kept hcr (grownBy_putObj' _ D (.deferred none)) (fun r e => by cases e; exact ⟨_, hK, rfl⟩)
    refine ⟨.int .i64 (b.1 : Int), ?_, by rw [hl], hB.trans (belowK_b (w := w) (Nat.le_refl _) W D _ _ (by omega) hK rfl rfl)⟩
    simp [results, Tryz.f77, go_sem, hc5]
theorem least_c (c : Nat) (w : World) (hT : Tab w) (hh : 0 < w.heap.size) : Calls Tryz.prog 77 #[encC c] w (Gives w (.int .i64 (leastI c))) := callsIn_wide.1 (least_in 4 (Nat.le_refl _) c w hT hh)
end Go.Proofs.YtjgkdfghjeodeaaGreatDoor
namespace Go.Proofs.YtjgkdfghjeodeaaGreatDoor
open Go.RowKit Go.Shelf
attribute [local go_sem] Oper.semAt_some

theorem info5 : (Tryz.prog.info? 5).map (fun i => (i.zero, i.size, i.bytes)) = some (some (.int .u8 0), 1, 1) := by kernel_rfl
theorem ownsRow_mono {w : World} {base base' : Nat} {e : TypeId} {size : Nat} {v : Value} {n : Nat} {xs : List Value} (h : w.ownsRow base e size v n xs) (hb : base' ≤ base) : w.ownsRow base' e size v n xs :=
  ⟨h.1, h.2.imp id fun ⟨g, cap, cur, h1, h2, r⟩ => ⟨g, cap, cur, h1, Nat.le_trans hb h2, r⟩⟩
theorem vals_map (l : List B8) : l.map encB = u8s (vals l) := by simp only [u8s, vals, List.map_map]; rfl

set_option maxRecDepth 100000 in
set_option maxHeartbeats 2000000 in
theorem appendSeq_in (n : Nat) (hn : 4 ≤ n) (c Bn : Nat) (w : World) (hBn : Blk w Bn 56 (ccells c)) (hT : Tab w) (hh : 0 < w.heap.size) : CallsIn Fence.wide n Tryz.prog 118 #[.slice none 0 0, .func (.func 119) #[] #[.pointer (some ⟨Bn, 0, none⟩)]] w
    fun e W' => ∃ v, e = .returned v ∧ W'.ownsRow w.heap.size 5 1 v (bytesC c).length (u8s (bytesC c)) ∧ Below w.heap.size w W' := by
  have h1 : 1 ≤ n := by omega
  obtain ⟨i0, hi, hz0, hz1, hz2⟩ := info_parts info5
  refine callsIn_of_wp_marks Tryz.func118 rfl trivial ?_ rfl
  simp only [Tryz.ntmps118, List.size_toArray, List.length_cons, List.length_nil, Nat.reduceAdd, Nat.reduceSub, Array.replicate_succ, Array.replicate_zero, List.push_toArray, List.append_toArray, List.nil_append, List.cons_append]
  have hst := fun W hB hT hh => members_stops (n - 1) (by omega) Bn w.heap.size hh c W hB hT
  have hBl := hBn.lt
  have k1 := Lib.hid (hBn.alloc (.cells #[.slice none 0 0] 22))
  have bO := Boxed.new w 22 (.slice none 0 0)
  have hB0 : Below w.heap.size w (w.alloc (.cells #[.slice none 0 0] 22)) := (Below.refl _ w).alloc (Nat.le_refl _) _
  have HT := Lib.hid (hT.below hh hB0)
  clear hBn hT
  gi_wp2
  refine wpIn_rangeFunc_ownG rfl h1 (gf := 119) (lb := #[.pointer (some ⟨Bn, 0, none⟩)]) rfl trivial (enters_of Tryz.func119 (by kernel_rfl) rfl)
    (hst _ k1.out HT.out hh (by simp)) belowK_t (belowK_b (by simp)) (Below.refl _ _) (fun _ => rfl)
    (fun pre W => (∃ v, Boxed W w.heap.size 22 v ∧ W.ownsRow w.heap.size 5 1 v pre.length (pre.map encB) ∧ True) ∧ Below w.heap.size w W)
    (fun _ _ _ => False)
    (OwnFrom.and (Own.from (holdsRow_own w.heap.size w.heap.size 22 5 1 (fun pre : List B8 => pre.length) (fun pre => pre.map encB) (fun _ _ => True)) _) (ownFrom_below (Nat.le_refl _) (by simp)))
    (fun _ _ _ _ _ hs _ _ => hs)
    ⟨⟨_, bO, World.ownsRow_nil _ _ _ _, trivial⟩, hB0⟩
    (fun x => { tmps := #[.slice none 0 0, .func (.func 119) #[] #[.pointer (some ⟨Bn, 0, none⟩)], .pointer (some ⟨w.heap.size, 0, none⟩), undef, .slice none 0 0, encB x, .func (.func 119) #[] #[.pointer (some ⟨Bn, 0, none⟩)], encB x, undef, undef, undef, undef, undef], defers := [] }) ?assign ?body ?done ?stop
  case assign =>
    intro l x W K hK
    gi_wp2
    exact hK
  case body =>
    rintro l pre x W ⟨⟨v, hv, hrow, _⟩, hB⟩ hlt
    have hc := hv.cell
    gi_wp2_with (gi_at_builtin; refine wpListIn_append_own _ rfl _ _ 22 rfl w.heap.size 5 i0 (.int .u8 0) 1 1 Tryz.underlying22 hi hz0 hz1 hz2 rfl (by decide) _ _ _ rfl (hrow.alloc _) ⟨W.heap.size, 0, none⟩ 1 1 [encB x] rfl rfl (cell_one_new _ _ _) (by simp [Value.oneCell']) (by unfold maxLen; omega) (by omega) (by have := hB.size; simp; omega) ?_; intro v' w1 hown' hgrow _; obtain ⟨g', cap', rfl⟩ := ownsRow_succ hown'; obtain ⟨hv1, hv2, hr2, hk2, hb2⟩ := hv.appended (by decide) hrow hB.size (Nat.le_refl _) hown' hgrow; have hc1 := hv1.cell; have hf1 := hv1.frozen)
    exact ⟨hk2.from _, hb2, ⟨_, hv2, by simpa using hr2, trivial⟩, hB.trans hb2⟩
  case done =>
    rintro D ys W hD hys ⟨⟨v, hv, hrow, _⟩, hB⟩ hK
    have hc := hv.cell
    gi_wp2
    refine ⟨by simp, .inl ⟨_, _, rfl, run_takeDeferred hK, ?_⟩⟩
    rw [vals_map, hys, show ys.length = (bytesC c).length from by rw [← hys]; simp [vals]] at hrow
    exact ⟨_, results_tmp rfl _ _ _, v, rfl, ownsRow_putObj hrow _ hK rfl, hB.trans (belowK_b (w := w) (Nat.le_refl _) W D _ _ (by simp at hD; omega) hK rfl rfl)⟩
  case stop =>
    rintro D c pre W _ _ h _
    exact h.elim

/-- a slice of bytes of one's own -/
def OwnU8 (w : World) (base : Nat) (v : Value) (l : List Nat) : Prop := w.ownsRow base 5 1 v l.length (u8s l)
theorem appendSeq_c (c Bn : Nat) (w : World) (hBn : Blk w Bn 56 (ccells c)) (hT : Tab w) (hh : 0 < w.heap.size) : Calls Tryz.prog 118 #[.slice none 0 0, .func (.func 119) #[] #[.pointer (some ⟨Bn, 0, none⟩)]] w
    fun e W' => ∃ v, e = .returned v ∧ OwnU8 W' w.heap.size v (bytesC c) ∧ Below w.heap.size w W' := callsIn_wide.1 (appendSeq_in 4 (Nat.le_refl _) c Bn w hBn hT hh)
theorem collect_c (c Bn : Nat) (w : World) (hBn : Blk w Bn 56 (ccells c)) (hT : Tab w) (hh : 0 < w.heap.size) : Calls Tryz.prog 102 #[.func (.func 119) #[] #[.pointer (some ⟨Bn, 0, none⟩)]] w
    fun e W' => ∃ v, e = .returned v ∧ OwnU8 W' w.heap.size v (bytesC c) ∧ Below w.heap.size w W' := by
  have hcall := appendSeq_c c Bn w hBn hT hh
  clear hBn hT
  go_enter Tryz.func102, Tryz.ntmps102
  go_wp2_with (go_at_call 118; refine hcall.mono ?_; rintro e w' ⟨v, rfl, h1, h2⟩)
  go_ret
  exact ⟨_, rfl, h1, h2⟩
theorem bytes_c (c : Nat) (w : World) (hT : Tab w) (hh : 0 < w.heap.size) : Calls Tryz.prog 52 #[encC c] w
    fun e W' => ∃ v, e = .returned v ∧ OwnU8 W' w.heap.size v (bytesC c) ∧ Below w.heap.size w W' := by
  have hcall := members_c c
  have hcol := fun Bn W hB hT hh => collect_c c Bn W hB hT hh
  unfold encC at *
  have HS := Lib.hid (show (ccells c).size = 4 from rfl)
  generalize ccells c = A at *
  have k1 := Blk.new w 56 A
  have k2' := Blk.new (w.alloc (.cells A 56)) 56 A
  simp only [World.size_alloc] at k2'
  have k2 := Lib.hid k2'
  have hsz := Lib.hid (show 0 < ((w.alloc (.cells A 56)).alloc (.cells A 56)).heap.size by simp)
  have K1 := Lib.hid k1
  have hb1 := Lib.hid ((Below.refl w.heap.size w).alloc (Nat.le_refl _) (.cells A 56))
  have hb2 := Lib.hid (hb1.out.alloc (by simp) (.cells A 56))
  have HT := Lib.hid (hT.below hh hb2.out)
  clear hT k1 k2'
  go_enter Tryz.func52, Tryz.ntmps52
  go_wp2_with (first
    | (refine wpList_load_blk rfl 56 (.tmp 1) rfl w.heap.size rfl 56 A _ K1.out Tryz.underlying56 rfl (by rw [HS.out]; exact size56) ?_)
    | (go_at_call 103
       refine (hcall _).mono ?_
       rintro e w' ⟨rfl, rfl⟩)
    | (go_at_call 102
       refine (hcol _ _ k2.out HT.out hsz.out).mono ?_
       rintro e w' ⟨v, rfl, h1, h2⟩))
  go_ret
  refine ⟨_, rfl, ?_, hb2.out.trans (h2.mono (by simp; omega))⟩
  exact ownsRow_mono h1 (by simp; omega)
end Go.Proofs.YtjgkdfghjeodeaaGreatDoor
