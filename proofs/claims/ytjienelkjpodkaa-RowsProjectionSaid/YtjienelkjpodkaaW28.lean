/- Walks: Made. -/
import Derived.Test.YtjienelkjpodkaaW27
namespace Go.Proofs.Ytjienelkjpodkaa
open Go.RowKit

structure MdMem (w : World) (A : Option Addr) (n c : Nat) (B : Option Addr) (m d : Nat) (TA : Option Addr) (tn tc : Nat) (top : List Int) (RA : Option Addr) (rn rc : Nat) (rows : List Row) (wr : World) : Prop where
  below : Below w.heap.size w wr
  b1 : Blk wr w.heap.size 25 #[.slice A n c, .slice B m d]
  b2 : Blk wr (w.heap.size + 1) 25 #[.slice none 0 0, .slice none 0 0]
  b3 : Blk wr (w.heap.size + 2) 25 #[.slice TA tn tc, .slice RA rn rc]
  top : Own wr (w.heap.size + 3) 3 TA tn tc (top.map (Value.int .i64))
  rows : OwnR wr (w.heap.size + 3) RA rn rc rows
section
variable {w wr w' w8 : World} {A : Option Addr} {n c : Nat} {B : Option Addr} {m d : Nat} {TA : Option Addr} {tn tc : Nat} {top : List Int} {RA : Option Addr} {rn rc : Nat} {rows : List Row}
theorem MdMem.below_ (h : MdMem w A n c B m d TA tn tc top RA rn rc rows wr) (hb : Below wr.heap.size wr w') : MdMem w A n c B m d TA tn tc top RA rn rc rows w' :=
  ⟨h.below.trans (hb.mono h.below.size), h.b1.old hb, h.b2.old hb, h.b3.old hb, h.top.below hb, h.rows.below hb⟩
theorem OwnR.only {g' : Nat} {B0 : Nat} {L : Option Addr} {ln lc : Nat} {rs : List Row} (h : OwnR w B0 L ln lc rs) (ho : Only g' w w') (hg : ∀ k, obl L = some k → k ≠ g') (hr : ∀ us, OwnS w B0 37 2 L ln lc us → AllR w (fun k => obl L ≠ some k) us rs → AllR w (fun k => obl L ≠ some k ∧ k ≠ g') us rs) : OwnR w' B0 L ln lc rs := by
  obtain ⟨us, h1, h2⟩ := h.ex
  exact ⟨us, h1.only ho (fun e => hg _ e rfl), ((hr us h1 h2).old fun k hk _ => ho.block k hk.2).weak fun k _ hk => hk.1⟩
/-- a store over a value that is no number leaves rows -/
theorem RowIn.other {K : Nat → Prop} {u v : Value} {r : Row} {p : Addr} {x y : Value} (h : RowIn w K u v r) (hc : w.cell? p = some y) (hv : ∀ z, y ≠ .int .i64 z) : RowIn (w.setCell p x) K u v r := by
  obtain ⟨A, n, c, h1, h2, h3, h4⟩ := h
  exact ⟨A, n, c, h1, h2, h3.other hc hv, h4⟩
theorem AllR.other {K : Nat → Prop} {us : List Value} {rs : List Row} {p : Addr} {x y : Value} (h : AllR w K us rs) (hc : w.cell? p = some y) (hv : ∀ z, y ≠ .int .i64 z) : AllR (w.setCell p x) K us rs :=
  ⟨h.1, fun j r hr => by
    obtain ⟨u, v, h1, h2, h3⟩ := h.2 j r hr
    exact ⟨u, v, h1, h2, h3.other hc hv⟩⟩
theorem OwnR.set {B0 g i : Nat} {t : TypeId} {cs : Array Value} {x y : Value} {L : Option Addr} {ln lc : Nat} {rs : List Row} (h : OwnR w B0 L ln lc rs) (hg : Blk w g t cs) (ht : 37 ≠ t) (hc : cs[i]? = some y) (hv : ∀ z, y ≠ .int .i64 z) : OwnR (w.setCell ⟨g, i, none⟩ x) B0 L ln lc rs := by
  obtain ⟨us, h1, h2⟩ := h.ex
  exact ⟨us, h1.only (Only.setCell _ _ _ _) (ownS_ne_blk h1 hg ht), h2.other (by rw [hg.cell]; exact hc) hv⟩
theorem MdMem.setTop {T2 : Option Addr} {tn2 tc2 : Nat} {top2 : List Int} (h : MdMem w A n c B m d TA tn tc top RA rn rc rows wr) (ho : Own wr (w.heap.size + 3) 3 T2 tn2 tc2 (top2.map (Value.int .i64))) : MdMem w A n c B m d T2 tn2 tc2 top2 RA rn rc rows (wr.setCell ⟨w.heap.size + 2, 0, none⟩ (.slice T2 tn2 tc2)) := by
  have hw := Only.setCell wr (w.heap.size + 2) 0 (.slice T2 tn2 tc2)
  refine ⟨below_only h.below hw (by omega), h.b1.only hw (by omega), h.b2.only hw (by omega), h.b3.set_ 0 _, OwnS.only (s := 1) ho hw (ownS_ne_blk (s := 1) ho h.b3 (by decide)), h.rows.set h.b3 (by decide) rfl (fun z => by simp)⟩
theorem MdMem.setRows {R2 : Option Addr} {rn2 rc2 : Nat} {rows2 : List Row} (h : MdMem w A n c B m d TA tn tc top RA rn rc rows wr) (ho : OwnR wr (w.heap.size + 3) R2 rn2 rc2 rows2) : MdMem w A n c B m d TA tn tc top R2 rn2 rc2 rows2 (wr.setCell ⟨w.heap.size + 2, 1, none⟩ (.slice R2 rn2 rc2)) := by
  have hw := Only.setCell wr (w.heap.size + 2) 1 (.slice R2 rn2 rc2)
  have ht : OwnS wr (w.heap.size + 3) 3 1 TA tn tc (top.map (Value.int .i64)) := h.top
  refine ⟨below_only h.below hw (by omega), h.b1.only hw (by omega), h.b2.only hw (by omega), h.b3.set_ 1 _, OwnS.only (s := 1) ht hw (ownS_ne_blk ht h.b3 (by decide)), ho.set h.b3 (by decide) rfl (fun z => by simp)⟩
theorem cell_at {w w' : World} {p : Addr} {u : Value} (hb : w'.heap[p.block]? = w.heap[p.block]?) (h : w.cell? p = some u) : w'.cell? p = some u := by
  rw [← h]
  unfold World.cell?
  rw [hb]
/-- a row is appended to rows of its own: all else stays -/
theorem MdMem.pushRow {R2 : Option Addr} {rc2 : Nat} {r : Row} (h : MdMem w A n c B m d TA tn tc top RA rn rc rows wr) (hR : OwnR w8 (w.heap.size + 3) R2 (rn + 1) rc2 (rows ++ [r])) (hgr : wr.grownBy w8 (obl RA)) :
    Blk w8 (w.heap.size + 2) 25 #[.slice TA tn tc, .slice RA rn rc] ∧ MdMem w A n c B m d TA tn tc top R2 (rn + 1) rc2 (rows ++ [r]) (w8.setCell ⟨w.heap.size + 2, 1, none⟩ (.slice R2 (rn + 1) rc2)) := by
  obtain ⟨us, h1, h2⟩ := h.rows.ex
  have ht : OwnS wr (w.heap.size + 3) 3 1 TA tn tc (top.map (Value.int .i64)) := h.top
  have hlt := h.b3.lt
  have b3 := h.b3.grown hgr (ownS_ne_blk h1 h.b3 (by decide))
  have hb : Below (w.heap.size + 3) wr w8 := (Below.refl _ _).grown hgr (by omega) (fun k hk => (h1.lt k hk).1)
  have ht8 : OwnS w8 (w.heap.size + 3) 3 1 TA tn tc (top.map (Value.int .i64)) := ht.keep fun g hg => hgr.block g (ht.lt g hg).2 (fun e => ownS_ne_ownS (s := 1) ht h1 (by decide) g hg e.symm)
  have hw := Only.setCell w8 (w.heap.size + 2) 1 (.slice R2 (rn + 1) rc2)
  exact ⟨b3, below_only (h.below.trans (hb.mono (by omega))) hw (by omega), (h.b1.below hb (by omega)).only hw (by omega), (h.b2.below hb (by omega)).only hw (by omega), b3.set_ 1 _, OwnS.only (s := 1) ht8 hw (ownS_ne_blk ht8 b3 (by decide)), hR.set b3 (by decide) rfl (fun z => by simp)⟩
/-- a number is appended to a row of its own: all else stays -/
theorem MdMem.pushTop {T2 : Option Addr} {tc2 : Nat} {x : Int} (h : MdMem w A n c B m d TA tn tc top RA 0 0 [] wr) (hown : Own w8 (w.heap.size + 3) 3 T2 (tn + 1) tc2 (top.map (Value.int .i64) ++ [.int .i64 x])) (hgr : wr.grownBy w8 (obl TA)) (_hob : obl T2 = obl TA ∨ obl T2 = some wr.heap.size) :
    Blk w8 (w.heap.size + 2) 25 #[.slice TA tn tc, .slice RA 0 0] ∧ MdMem w A n c B m d T2 (tn + 1) tc2 (top ++ [x]) RA 0 0 [] (w8.setCell ⟨w.heap.size + 2, 0, none⟩ (.slice T2 (tn + 1) tc2)) := by
  have ht : OwnS wr (w.heap.size + 3) 3 1 TA tn tc (top.map (Value.int .i64)) := h.top
  have hlt := h.b3.lt
  have b3 := h.b3.grown hgr (ownS_ne_blk ht h.b3 (by decide))
  have hb : Below (w.heap.size + 3) wr w8 := (Below.refl _ _).grown hgr (by omega) (fun k hk => (ht.lt k hk).1)
  refine ⟨b3, ?_⟩
  obtain ⟨us, h1, h2⟩ := h.rows.ex
  have hus : us = [] := List.eq_nil_of_length_eq_zero (by simpa using h2.1)
  have hrow : OwnR w8 (w.heap.size + 3) RA 0 0 [] := by
    subst hus
    refine ⟨[], h1.keep fun g hg => hgr.block g (h1.lt g hg).2 (fun e => ownS_ne_ownS (s' := 1) h1 ht (by decide) g hg e.symm), ?_⟩
    exact ⟨rfl, fun j r hr => by simp at hr⟩
  have hM : MdMem w A n c B m d TA tn tc top RA 0 0 [] wr := h
  have hw := Only.setCell w8 (w.heap.size + 2) 0 (.slice T2 (tn + 1) tc2)
  have ho2 : OwnS w8 (w.heap.size + 3) 3 1 T2 (tn + 1) tc2 (top.map (Value.int .i64) ++ [.int .i64 x]) := hown
  have b1 := h.b1.below hb (by omega)
  have b2 := h.b2.below hb (by omega)
  refine ⟨below_only (h.below.trans (hb.mono (by omega))) hw (by omega), b1.only hw (by omega), b2.only hw (by omega), b3.set_ 0 _, ?_, hrow.set b3 (by decide) rfl (fun z => by simp)⟩
  rw [List.map_append]
  exact OwnS.only (s := 1) ho2 hw (ownS_ne_blk ho2 b3 (by decide))
end
theorem step_pushR {P : Program} {ops : Array Oper} {o : Oper} {a : Act} {w : World} {K : Act → World → Prop} {Q : Exit → Act → World → Prop} {E : Prop} (hgd : o.guard = none) (sx x : Operand) (t : TypeId)
    (ho : o.op = .call { callee := .builtin .append, args := #[sx, x], argTypes := #[t, t] }) (hT : AppS P t 37 2 32) (B : Nat) (L : Option Addr) (ln lc : Nat) (rs : List Row) (hs : a.eval sx = .slice L ln lc) (hR : OwnR w B L ln lc rs)
    (gb : Nat) (u v : Value) (r : Row) (hx : a.eval x = .slice (some ⟨gb, 0, none⟩) 1 1) (hgb : Blk w gb 37 #[u, v]) (hr : RowIn w (fun k => obl L ≠ some k) u v r) (hb : ln ≤ 1000000) (hB : B ≤ w.heap.size)
    (h : ∀ L' lc' w', OwnR w' B L' (ln + 1) lc' (rs ++ [r]) → w.grownBy w' (obl L) → K (a.put o.dst (.slice L' (ln + 1) lc')) w') :
    if Region.wanted o (yielded ops a.tmps) = true then Oper.wp P o a w K Q else E := by
  obtain ⟨us, h1, h2⟩ := hR.ex
  have hone : ∀ y ∈ [u, v], y.oneCell' = true := fun y hy => by
    obtain ⟨A, n, c, rfl, rfl, _, _⟩ := hr
    simp at hy
    rcases hy with rfl | rfl <;> rfl
  refine step_pushS hgd sx x t ho hT B L ln lc us hs h1 gb [u, v] hx rfl 37 hgb hone (by omega) (by omega) hB (fun L' lc' w' hown hgr hob => h L' lc' w' ⟨us ++ [u, v], hown, ?_⟩ hgr)
  have ho : Old (fun k => obl L ≠ some k) w w' := Old.grown hgr (fun k hk hk' => hk' hk)
  have key : ∀ k, k < w.heap.size → obl L ≠ some k → obl L ≠ some k ∧ k < w.heap.size := fun k hk hk' => ⟨hk', hk⟩
  have h3 := (h2.snoc hr).weak key
  have h4 := h3.old (w' := w') (fun k hk _ => ho k hk.1 hk.2)
  refine h4.weak fun k _ hk e => ?_
  rcases hob with e' | e'
  · rw [e'] at e; exact hk.1 e
  · rw [e'] at e; cases e; have := hk.2; omega
def MadePost (w : World) (s : Sys) (e : Ending) (w' : World) : Prop := ∃ A n c B m d, e = .returned (.agg #[.slice A n c, .slice B m d]) ∧ R1 w' TT A n c s.1 ∧ RR w' TT B m d s.2 ∧ Below w.heap.size w w'

theorem madeS_rows (s : Sys) : (madeS s).2 = (s.2.take 6).map fun r => madeRow r (madeS s).1.length := rfl
theorem madeS_i64 (s : Sys) : ∀ x ∈ (madeS s).1, I64 x := fun x hx => by
  simp only [madeS] at hx
  split at hx
  · rw [List.mem_singleton] at hx; subst hx; exact i64_small (by decide) (by decide)
  · obtain ⟨t, _, rfl⟩ := List.mem_map.1 hx
    have := foldF_bound (x := t) (lo := 0) (hi := 5) (by decide)
    exact i64_small (by omega) (by omega)
theorem OwnR.store25 {w w' : World} {B g : Nat} {v0 v1 : Value} {L : Option Addr} {ln lc : Nat} {rs : List Row} (h : OwnR w B L ln lc rs) (hb : Blk w g 25 #[.slice none 0 0, .slice none 0 0]) (hk : Blk w' g 25 #[v0, v1]) (ho : Only g w w') (hn : ln ≤ 1000000) : RR w' TT L ln lc rs := by
  obtain ⟨us, h1, h2⟩ := h.ex
  have hs := hb.set_ 0 v0
  have h3 := (h2.other (p := ⟨g, 0, none⟩) (x := v0) (hb.cell 0) (fun z => by simp)).other (p := ⟨g, 1, none⟩) (x := v1) (hs.cell 1) (fun z => by simp)
  have hs2 := hs.set_ 1 v1
  have h4 : AllR w' (fun k => obl L ≠ some k) us rs := h3.old (fun k _ _ => by
    by_cases e : k = g
    · subst e
      unfold Blk at hk hs2
      rw [hk, hs2]; rfl
    · rw [ho.block k e, Below.heap_setCell _ ⟨g, 1, none⟩ _ k e, Below.heap_setCell _ ⟨g, 0, none⟩ _ k e])
  exact (h1.only ho (ownS_ne_blk h1 hb (by decide))).rr (fun _ _ => trivial) (by omega) (h4.weak fun _ _ _ => trivial)

set_option maxRecDepth 100000 in
set_option maxHeartbeats 8000000 in
/-- 'Made'. -/
theorem made_c (K : Nat → Prop) (A B : Option Addr) (n c m d : Nat) (s : Sys) (w : World) (h : R1 w K A n c s.1) (h' : RR w K B m d s.2) :
    Calls Try.prog 9 #[.agg #[.slice A n c, .slice B m d]] w (MadePost w (madeS s)) := by
  have hln := h.len
  have hlm := h'.len
  have hnb := h.big
  have hmb := h'.big
  have H1 := Lib.hid h
  have H2 := Lib.hid h'
  have HM0 := Lib.hid (show MdMem w A n c B m d none 0 0 ((s.1.take 0).map fun t => foldF t 0 5) none 0 0 [] (((w.alloc (.cells #[.slice A n c, .slice B m d] 25)).alloc (.cells #[.slice none 0 0, .slice none 0 0] 25)).alloc (.cells #[.slice none 0 0, .slice none 0 0] 25)) from by
    refine ⟨(((Below.refl w.heap.size w).alloc (Nat.le_refl _) _).alloc (by simp) _).alloc (by simp; omega) _, ((Blk.new w 25 _).alloc _).alloc _, ?_, ?_, Own.nil_ _ _ _, OwnR.nil_ _ _⟩
    · have := (Blk.new (w.alloc (.cells #[.slice A n c, .slice B m d] 25)) 25 #[.slice none 0 0, .slice none 0 0]).alloc (.cells #[.slice none 0 0, .slice none 0 0] 25)
      simpa using this
    · have := Blk.new ((w.alloc (.cells #[.slice A n c, .slice B m d] 25)).alloc (.cells #[.slice none 0 0, .slice none 0 0] 25)) 25 #[.slice none 0 0, .slice none 0 0]
      simpa using this)
  clear h h'
  go_enter Try.func9, Try.ntmps9
  go_wp2_with fail
  go_loopw [4] (fun s4 wr => ∃ (i : Nat) (TA : Option Addr) (tc : Nat), i ≤ n ∧ i ≤ 4 ∧ s4 = .int .i64 i ∧ MdMem w A n c B m d TA i tc ((s.1.take i).map fun t => foldF t 0 5) none 0 0 [] wr) (fun s4 _ => n - (intOf s4).toNat)
  case atStart => exact ⟨0, none, 0, Nat.zero_le _, Nat.zero_le _, rfl, HM0.out⟩
  case round =>
    clear HM0
    obtain ⟨i, TA, tc, hin, hi4, rfl, hm⟩ := hrel
    obtain ⟨wo, rfl⟩ : ∃ wo : World, wo = wr := ⟨_, rfl⟩
    have b0 : wo.cell? ⟨w.heap.size, 0, none⟩ = some (.slice A n c) := hm.b1.cell 0
    have b1 : wo.cell? ⟨w.heap.size, 1, none⟩ = some (.slice B m d) := hm.b1.cell 1
    have t0 : wo.cell? ⟨w.heap.size + 2, 0, none⟩ = some (.slice TA i tc) := hm.b3.cell 0
    have HMo := Lib.hid hm
    by_cases h1 : i < n
    · have d1 : decide ((i : Int) < n) = true := by simp; omega
      have d1n : decide (i < n) = true := decide_eq_true h1
      by_cases h2 : i < 4
      · have d2 : decide ((i : Int) < 4) = true := by simp; omega
        have d2n : decide (i < 4) = true := decide_eq_true h2
        obtain ⟨ad, t, rfl, _, ht, hti, hct⟩ := (H1.out.below hm.below).at_ h1
        have hi1 : (i : Int) < n := by omega
        have HTk := Lib.hid (take_snoc_of ht)
        have Hti := Lib.hid hti
        clear hm ht hti
        go_upto_region 5 with fail
        have HDr := Lib.hid (show Below wo.heap.size wo (wo.alloc (.cells #[.int .i64 (foldF t 0 5)] 3)).drew from ((Below.refl wo.heap.size wo).alloc (Nat.le_refl _) _).drew)
        have hbs : w.heap.size + 2 < wo.heap.size := HMo.out.b3.lt
        go_region_law (first
          | (refine step_pushS rfl (.tmp 19) (.tmp 26) 22 rfl app22s (w.heap.size + 3) TA i tc _ rfl (show OwnS _ _ _ _ _ _ _ _ from Own.below HMo.out.top HDr.out) wo.heap.size [.int .i64 (foldF t 0 5)] rfl rfl 3 (blk_drew (Blk.new wo 3 _)) (by simp [Value.oneCell']) (by omega) (by omega) (by simp; omega) ?_
             intro T2 tc2 w8 hown hgr hob
             have HNM := Lib.hid ((HMo.out.below_ HDr.out).pushTop hown hgr hob)
             have q3 := HNM.out.1.cell 0
             have f3 := HNM.out.1.frozen 0
             clear hown hgr hob)
          | (refine step_call rfl 20 #[.int .i64 t, .int .i64 0, .int .i64 5] (by go_simp) ((fold_c t 0 5 _ Hti.out (by omega)).mono ?_)
             rintro e w9 ⟨rfl, rfl⟩
             refine ⟨_, rfl, ?_⟩))
        all_goals
          clear b0 b1 t0 hct
          go_wp2_with fail
          clear q3 f3
          go_roundw
          case rel => exact ⟨i + 1, T2, tc2, by omega, by omega, by go_num, by rw [HTk.out, List.map_append]; exact HNM.out.2⟩
          case measure => simp [intOf]; omega
      · have d2 : decide ((i : Int) < 4) = false := by simp; omega
        have d2n : decide (i < 4) = false := decide_eq_false h2
        have hi4' : 1 ≤ i := by omega
        have e0 : ((i : Int) == 0) = false := by simp; omega
        have e0n : (i == 0) = false := by simp; omega
        have HMs := Lib.hid (show MdMem w A n c B m d TA i tc (madeS s).1 none 0 0 [] wo from by
          have e : (madeS s).1 = (s.1.take i).map fun t => foldF t 0 5 := by
            have : s.1 ≠ [] := fun e => by rw [e] at hln; simp at hln; omega
            simp only [madeS]
            rw [if_neg (by simpa using this)]
            congr 1
            rw [show i = 4 by omega]
          rw [e]; exact hm)
        have htl : i ≤ 12 := by omega
        clear hm
        go_wp2_with fail
        have htn : (madeS s).1.length = i := by have := HMs.out.top.len; simpa using this
        have HTn := Lib.hid htn
        have HM1 := Lib.hid (show MdMem w A n c B m d TA i tc (madeS s).1 none 0 0 ((s.2.take 0).map fun r => madeRow r i) wo from HMs.out)
        clear htn b0 b1 t0
        go_loopw [5] (fun s5 wr => ∃ (k : Nat) (RA : Option Addr) (rc : Nat), k ≤ m ∧ k ≤ 6 ∧ s5 = .int .i64 k ∧ MdMem w A n c B m d TA i tc (madeS s).1 RA k rc ((s.2.take k).map fun r => madeRow r i) wr) (fun s5 _ => m - (intOf s5).toNat)
        case atStart => exact ⟨0, none, 0, Nat.zero_le _, Nat.zero_le _, rfl, HM1.out⟩
        case round =>
          clear HM1 HMs
          obtain ⟨k, RA, rc, hkm, hk6, rfl, hm⟩ := hrel
          obtain ⟨wp, rfl⟩ : ∃ wp : World, wp = wr := ⟨_, rfl⟩
          have HMp := Lib.hid hm
          have p1 : wp.cell? ⟨w.heap.size, 1, none⟩ = some (.slice B m d) := hm.b1.cell 1
          by_cases hk1 : k < m
          · have d1 : decide ((k : Int) < m) = true := by simp; omega
            have d1n : decide (k < m) = true := decide_eq_true hk1
            by_cases hk2 : k < 6
            · have d2 : decide ((k : Int) < 6) = true := by simp; omega
              have d2n : decide (k < 6) = true := decide_eq_true hk2
              obtain ⟨ad2, r, A', n', c', rfl, hadlt, hr, hcu, hcv, hR, hI⟩ := ((H2.out.weak (K' := fun q => q < w.heap.size) fun q hq _ => hq).below hm.below).at_ hk1
              have hki : (k : Int) < m := by omega
              have HRr := Lib.hid hR
              have HIr := Lib.hid hI
              have HTk := Lib.hid (take_snoc_of hr)
              have t1a : wp.cell? ⟨w.heap.size + 2, 1, none⟩ = some (.slice RA k rc) := hm.b3.cell 1
              have hcv' : wp.cell? ⟨(ad2.add (k * 2)).block, (ad2.add (k * 2)).off + 1, none⟩ = some (.int .i64 r.2) := by
                rw [← add_lit (ad2.add (k * 2)) (j := 1) (by decide), add_of_add]; exact hcv
              have HCC := Lib.hid (fun (W : World) (hb : Below (w.heap.size + 3) wp W) => show W.cell? ⟨w.heap.size, 1, none⟩ = some (.slice (some ad2) m d) ∧ W.cell? (ad2.add (k * 2)) = some (.slice A' n' c') ∧ W.cell? ⟨(ad2.add (k * 2)).block, (ad2.add (k * 2)).off + 1, none⟩ = some (.int .i64 r.2) ∧ W.cell? ⟨w.heap.size + 2, 0, none⟩ = some (.slice TA i tc) from
                ⟨(hm.b1.below hb (by omega)).cell 1, cell_at (hb.block _ (by rw [block_of_add]; omega)) hcu, cell_at (hb.block _ (by show (ad2.add (k * 2)).block < w.heap.size + 3; rw [block_of_add]; omega)) hcv', (hm.b3.below hb (by omega)).cell 0⟩)
              have Had := Lib.hid hadlt
              have HCu := Lib.hid hcu
              have HCv := Lib.hid hcv'
              clear hm hcu hcv hR hI hr hcv' hadlt
              go_upto_region 11 with fail
              clear p1
              refine wp_region_held_drew (S := fun w' => w'.cell? ⟨w.heap.size, 1, none⟩ = some (.slice (some ad2) m d) ∧ w'.cell? (ad2.add (k * 2)) = some (.slice A' n' c') ∧ w'.cell? ⟨(ad2.add (k * 2)).block, (ad2.add (k * 2)).off + 1, none⟩ = some (.int .i64 r.2) ∧ w'.cell? ⟨w.heap.size + 2, 0, none⟩ = some (.slice TA i tc)) (by kernel_rfl) (HCC.out _ ((Below.refl (w.heap.size + 3) wp).drew)) ?_
              intro hS
              change wpAnyH _ _ _ _ _ 15 #[false, false, false, false, false, false, false, false, false, false, false, false, false, false, false] _ _
              refine wpAnyH_take (i := 0) (oi := { dst := some 46, op := Op.fieldAddr 25 (Operand.tmp 3) 1, type := 0, pos := "ref.go:398", after := #[], guard := none }) (v := .pointer (some ⟨w.heap.size + 2, 1, none⟩)) rfl (by kernel_rfl) (by kernel_rfl) (by kernel_rfl) (fun _ _ _ h => h) (Or.inl ⟨by rfl, fun W hSW => ?_⟩) (by assumption) ?_
              · dsimp only at hSW
                go_simp
              simp only [Act.put, List.setIfInBounds_toArray, List.set_cons_zero, List.set_cons_succ]
              refine wpAnyH_take (i := 2) (oi := { dst := some 48, op := Op.fieldAddr 25 (Operand.tmp 1) 1, type := 0, pos := "ref.go:398", after := #[], guard := none }) (v := .pointer (some ⟨w.heap.size, 1, none⟩)) rfl (by kernel_rfl) (by kernel_rfl) (by kernel_rfl) (fun _ _ _ h => h) (Or.inl ⟨by rfl, fun W hSW => ?_⟩) (by assumption) ?_
              · dsimp only at hSW
                go_simp
              simp only [Act.put, List.setIfInBounds_toArray, List.set_cons_zero, List.set_cons_succ]
              refine wpAnyH_take (i := 3) (oi := { dst := some 49, op := Op.load 23 (Operand.tmp 48), type := 23, pos := "ref.go:398", after := #[{ on := 2, ground := Ground.data }], guard := none }) (v := .slice (some ad2) m d) rfl (by kernel_rfl) (by kernel_rfl) (by kernel_rfl) (fun _ _ _ h => h) (Or.inl ⟨by rfl, fun W hSW => ?_⟩) (by assumption) ?_
              · dsimp only at hSW
                go_simp
              simp only [Act.put, List.setIfInBounds_toArray, List.set_cons_zero, List.set_cons_succ]
              refine wpAnyH_take (i := 4) (oi := { dst := some 50, op := Op.move (Operand.tmp 5), type := 3, pos := "ref.go:398", after := #[], guard := none }) (v := .int .i64 k) rfl (by kernel_rfl) (by kernel_rfl) (by kernel_rfl) (fun _ _ _ h => h) (Or.inl ⟨by rfl, fun W hSW => ?_⟩) (by assumption) ?_
              · dsimp only at hSW
                go_simp
              simp only [Act.put, List.setIfInBounds_toArray, List.set_cons_zero, List.set_cons_succ]
              refine wpAnyH_take (i := 5) (oi := { dst := some 51, op := Op.indexAddr 23 (Operand.tmp 49) (Operand.tmp 50), type := 0, pos := "ref.go:398", after := #[{ on := 3, ground := Ground.data }, { on := 4, ground := Ground.data }], guard := none }) (v := .pointer (some (ad2.add (k * 2)))) rfl (by kernel_rfl) (by kernel_rfl) (by kernel_rfl) (fun _ _ _ h => h) (Or.inl ⟨by rfl, fun W hSW => ?_⟩) (by assumption) ?_
              · dsimp only at hSW
                go_simp
              simp only [Act.put, List.setIfInBounds_toArray, List.set_cons_zero, List.set_cons_succ]
              refine wpAnyH_take (i := 6) (oi := { dst := some 52, op := Op.load 37 (Operand.tmp 51), type := 37, pos := "ref.go:398", after := #[{ on := 5, ground := Ground.data }], guard := none }) (v := .agg #[.slice A' n' c', .int .i64 r.2]) rfl (by kernel_rfl) (by kernel_rfl) (by kernel_rfl) (fun _ _ _ h => h) (Or.inl ⟨by rfl, fun W hSW => ?_⟩) (by assumption) ?_
              · dsimp only at hSW
                go_simp
              simp only [Act.put, List.setIfInBounds_toArray, List.set_cons_zero, List.set_cons_succ]
              refine wpAnyH_take (i := 7) (oi := { dst := some 53, op := Op.fieldAddr 25 (Operand.tmp 3) 0, type := 0, pos := "ref.go:398", after := #[], guard := none }) (v := .pointer (some ⟨w.heap.size + 2, 0, none⟩)) rfl (by kernel_rfl) (by kernel_rfl) (by kernel_rfl) (fun _ _ _ h => h) (Or.inl ⟨by rfl, fun W hSW => ?_⟩) (by assumption) ?_
              · dsimp only at hSW
                go_simp
              simp only [Act.put, List.setIfInBounds_toArray, List.set_cons_zero, List.set_cons_succ]
              refine wpAnyH_take (i := 8) (oi := { dst := some 54, op := Op.load 22 (Operand.tmp 53), type := 22, pos := "ref.go:398", after := #[{ on := 7, ground := Ground.data }], guard := none }) (v := .slice TA i tc) rfl (by kernel_rfl) (by kernel_rfl) (by kernel_rfl) (fun _ _ _ h => h) (Or.inl ⟨by rfl, fun W hSW => ?_⟩) (by assumption) ?_
              · dsimp only at hSW
                go_simp
              simp only [Act.put, List.setIfInBounds_toArray, List.set_cons_zero, List.set_cons_succ]
              refine wpAnyH_take (i := 9) (oi := { dst := some 55, op := Op.call { callee := Callee.builtin Builtin.len, args := #[Operand.tmp 54], argTypes := #[22] }, type := 3, pos := "ref.go:398", after := #[{ on := 8, ground := Ground.data }], guard := none }) (v := .int .i64 i) rfl (by kernel_rfl) (by kernel_rfl) (by kernel_rfl) (fun _ _ _ h => h) (Or.inl ⟨by rfl, fun W hSW => ?_⟩) (by assumption) ?_
              · dsimp only at hSW
                go_simp
              simp only [Act.put, List.setIfInBounds_toArray, List.set_cons_zero, List.set_cons_succ]
              refine wpAnyH_ready (rs := [1, 10]) (by kernel_rfl) (by simp) ?_
              refine AllReadyH.cons (o := { dst := some 47, op := Op.load 23 (Operand.tmp 46), type := 23, pos := "ref.go:398", after := #[{ on := 0, ground := Ground.data }], guard := none }) rfl (fun K hK => ?_) (AllReadyH.cons (o := { dst := some 56, op := Op.call { callee := Callee.value (Operand.func 16), args := #[Operand.tmp 52, Operand.tmp 55], argTypes := #[37, 3] }, type := 37, pos := "ref.go:398", after := #[{ on := 6, ground := Ground.data }, { on := 9, ground := Ground.data }], guard := none }) rfl (fun K hK => ?_) AllReadyH.nil)
              · go_simp
                refine hK.out _ _ (HCC.out _ ((Below.refl (w.heap.size + 3) wp).drew)) (fun hS => ?_)
                simp only [List.setIfInBounds_toArray, List.set_cons_zero, List.set_cons_succ]
                refine wpAnyH_ready (rs := [10]) (by kernel_rfl) (by simp) ?_
                refine AllReadyH.cons (o := { dst := some 56, op := Op.call { callee := Callee.value (Operand.func 16), args := #[Operand.tmp 52, Operand.tmp 55], argTypes := #[37, 3] }, type := 37, pos := "ref.go:398", after := #[{ on := 6, ground := Ground.data }, { on := 9, ground := Ground.data }], guard := none }) rfl (fun K hK => ?_) AllReadyH.nil
                refine step_call rfl 16 #[.agg #[.slice A' n' c', .int .i64 r.2], .int .i64 i] (by go_simp) ((madeRow_c TT A' n' c' i r.1 r.2 wp.drew ((HRr.out.weak (fun _ _ _ => trivial)).below ((Below.refl wp.heap.size wp).drew)) HIr.out htl).mono ?_)
                rintro e w4 ⟨_, _, rfl, ⟨A4, n4, c4, rfl, rfl, hR4, hI4⟩, hb4⟩
                refine ⟨_, rfl, ?_⟩
                have hbw4 : Below wp.heap.size wp w4 := ((Below.refl wp.heap.size wp).drew).trans hb4
                have HB4 := Lib.hid hbw4
                have HM4 := Lib.hid (HMp.out.below_ hbw4)
                have HR4 := Lib.hid (show RowIn w4 (fun k => wp.heap.size ≤ k) (.slice A4 n4 c4) (.int .i64 (madeRow (r.1, r.2) i).2) (madeRow (r.1, r.2) i) from ⟨A4, n4, c4, rfl, rfl, hR4, hI4⟩)
                have t1b : w4.cell? ⟨w.heap.size + 2, 1, none⟩ = some (.slice RA k rc) := HM4.out.b3.cell 1
                have t1c : (w4.alloc (.cells #[.slice A4 n4 c4, .int .i64 (madeRow (r.1, r.2) i).2] 37)).cell? ⟨w.heap.size + 2, 1, none⟩ = some (.slice RA k rc) := (HM4.out.b3.alloc _).cell 1
                clear hR4 hI4 hb4 hbw4
                refine hK.out _ _ (HCC.out _ (HB4.out.mono (by have := HMp.out.b3.lt; omega))) (fun hS => ?_)
                simp only [Act.put, List.setIfInBounds_toArray, List.set_cons_zero, List.set_cons_succ]
                refine wpAnyH_ready (rs := [11]) (by kernel_rfl) (by simp) ?_
                refine AllReadyH.cons (o := { dst := some 57, op := Op.buildSlice 23 1 #[(0, Operand.tmp 56)], type := 23, pos := "ref.go:398", after := #[{ on := 10, ground := Ground.data }], guard := none }) rfl (fun K hK => ?_) AllReadyH.nil
                go_simp
                refine hK.out _ _ (HCC.out _ ((HB4.out.trans (((Below.refl w4.heap.size w4).alloc (Nat.le_refl _) _).mono HB4.out.size)).mono (by have := HMp.out.b3.lt; omega))) (fun hS => ?_)
                simp only [List.setIfInBounds_toArray, List.set_cons_zero, List.set_cons_succ]
                refine wpAnyH_ready (rs := [12]) (by kernel_rfl) (by simp) ?_
                refine AllReadyH.cons (o := { dst := some 58, op := Op.call { callee := Callee.builtin Builtin.append, args := #[Operand.tmp 47, Operand.tmp 57], argTypes := #[23, 23] }, type := 23, pos := "ref.go:398", after := #[{ on := 1, ground := Ground.data }, { on := 11, ground := Ground.data }, { on := 10, ground := Ground.chain }], guard := none }) rfl (fun K hK => ?_) AllReadyH.nil
                have _ := HM4
                have hba : Below w4.heap.size w4 (w4.alloc (.cells #[.slice A4 n4 c4, .int .i64 (madeRow (r.1, r.2) i).2] 37)) := (Below.refl w4.heap.size w4).alloc (Nat.le_refl _) _
                refine step_pushR rfl (.tmp 47) (.tmp 57) 23 rfl app23 (w.heap.size + 3) RA k rc _ rfl (HM4.out.rows.below hba) w4.heap.size (.slice A4 n4 c4) (.int .i64 (madeRow (r.1, r.2) i).2) (madeRow (r.1, r.2) i) rfl (Blk.new w4 37 _) (RowIn.far (HM4.out.rows.below hba) (HR4.out.old (Old.of_below hba)) (fun j hj => (HMp.out.rows.lt j hj).2)) (by omega) (by have := HM4.out.b3.lt; simp; omega) ?_
                intro R2 rc2 w8 hR8 hgr
                have HNM := Lib.hid ((HM4.out.below_ hba).pushRow hR8 hgr)
                have HB8 := Lib.hid (show Below (w.heap.size + 3) wp w8 from ((HB4.out.trans (hba.mono HB4.out.size)).mono (by have := HMp.out.b3.lt; omega)).trans ((Below.refl (w.heap.size + 3) (w4.alloc (.cells #[.slice A4 n4 c4, .int .i64 (madeRow (r.1, r.2) i).2] 37))).grown hgr (by have := HM4.out.b3.lt; simp; omega) (fun q hq => ((HM4.out.rows.below hba).lt q hq).1)))
                have q3 := HNM.out.1.cell 1
                have f3 := HNM.out.1.frozen 1
                clear hR8 hgr hba
                refine hK.out _ _ (HCC.out _ HB8.out) (fun hS => ?_)
                simp only [Act.put, List.setIfInBounds_toArray, List.set_cons_zero, List.set_cons_succ]
                refine wpAnyH_take (i := 13) (oi := { dst := some 59, op := Op.fieldAddr 25 (Operand.tmp 3) 1, type := 0, pos := "ref.go:398", after := #[{ on := 0, ground := Ground.phase }, { on := 1, ground := Ground.phase }, { on := 2, ground := Ground.phase }, { on := 3, ground := Ground.phase }, { on := 4, ground := Ground.phase }, { on := 5, ground := Ground.phase }, { on := 6, ground := Ground.phase }, { on := 7, ground := Ground.phase }, { on := 8, ground := Ground.phase }, { on := 9, ground := Ground.phase }, { on := 10, ground := Ground.phase }, { on := 11, ground := Ground.phase }, { on := 12, ground := Ground.phase }], guard := none }) (v := .pointer (some ⟨w.heap.size + 2, 1, none⟩)) rfl (by kernel_rfl) (by kernel_rfl) (by kernel_rfl) (fun _ _ _ h => h) (Or.inl ⟨by rfl, fun W hSW => ?_⟩) (by assumption) ?_
                · dsimp only at hSW
                  go_simp
                simp only [Act.put, List.setIfInBounds_toArray, List.set_cons_zero, List.set_cons_succ]
                refine wpAnyH_ready (rs := [14]) (by kernel_rfl) (by simp) ?_
                refine AllReadyH.cons (o := { dst := none, op := Op.store 23 (Operand.tmp 59) (Operand.tmp 58), type := 0, pos := "ref.go:398", after := #[{ on := 13, ground := Ground.data }, { on := 12, ground := Ground.data }, { on := 12, ground := Ground.chain }, { on := 0, ground := Ground.phase }, { on := 1, ground := Ground.phase }, { on := 2, ground := Ground.phase }, { on := 3, ground := Ground.phase }, { on := 4, ground := Ground.phase }, { on := 5, ground := Ground.phase }, { on := 6, ground := Ground.phase }, { on := 7, ground := Ground.phase }, { on := 8, ground := Ground.phase }, { on := 9, ground := Ground.phase }, { on := 10, ground := Ground.phase }, { on := 11, ground := Ground.phase }, { on := 12, ground := Ground.phase }], guard := none }) rfl (fun K hK => ?_) AllReadyH.nil
                go_simp
                refine hK.out _ _ (⟨HNM.out.2.b1.cell 1, cell_at (p := ad2.add (k * 2)) ((HNM.out.2.below.block _ (by rw [block_of_add]; exact Had.out)).trans (HMp.out.below.block _ (by rw [block_of_add]; exact Had.out)).symm) HCu.out, cell_at ((HNM.out.2.below.block _ (by show (ad2.add (k * 2)).block < w.heap.size; rw [block_of_add]; exact Had.out)).trans (HMp.out.below.block _ (by show (ad2.add (k * 2)).block < w.heap.size; rw [block_of_add]; exact Had.out)).symm) HCv.out, HNM.out.2.b3.cell 0⟩) (fun hS => ?_)
                simp only [List.setIfInBounds_toArray, List.set_cons_zero, List.set_cons_succ]
                refine wpAnyH_done (by kernel_rfl) ?_ _
                clear t1a t1b t1c q3 f3
                go_wp2_with fail
                go_roundw
                case rel => exact ⟨k + 1, R2, rc2, by omega, by omega, by go_num, by rw [HTk.out, List.map_append]; exact HNM.out.2⟩
                case measure => simp [intOf]; omega
              · refine step_call rfl 16 #[.agg #[.slice A' n' c', .int .i64 r.2], .int .i64 i] (by go_simp) ((madeRow_c TT A' n' c' i r.1 r.2 wp.drew ((HRr.out.weak (fun _ _ _ => trivial)).below ((Below.refl wp.heap.size wp).drew)) HIr.out htl).mono ?_)
                rintro e w4 ⟨_, _, rfl, ⟨A4, n4, c4, rfl, rfl, hR4, hI4⟩, hb4⟩
                refine ⟨_, rfl, ?_⟩
                have hbw4 : Below wp.heap.size wp w4 := ((Below.refl wp.heap.size wp).drew).trans hb4
                have HB4 := Lib.hid hbw4
                have HM4 := Lib.hid (HMp.out.below_ hbw4)
                have HR4 := Lib.hid (show RowIn w4 (fun k => wp.heap.size ≤ k) (.slice A4 n4 c4) (.int .i64 (madeRow (r.1, r.2) i).2) (madeRow (r.1, r.2) i) from ⟨A4, n4, c4, rfl, rfl, hR4, hI4⟩)
                have t1b : w4.cell? ⟨w.heap.size + 2, 1, none⟩ = some (.slice RA k rc) := HM4.out.b3.cell 1
                have t1c : (w4.alloc (.cells #[.slice A4 n4 c4, .int .i64 (madeRow (r.1, r.2) i).2] 37)).cell? ⟨w.heap.size + 2, 1, none⟩ = some (.slice RA k rc) := (HM4.out.b3.alloc _).cell 1
                clear hR4 hI4 hb4 hbw4
                refine hK.out _ _ (HCC.out _ (HB4.out.mono (by have := HMp.out.b3.lt; omega))) (fun hS => ?_)
                simp only [Act.put, List.setIfInBounds_toArray, List.set_cons_zero, List.set_cons_succ]
                refine wpAnyH_ready (rs := [1, 11]) (by kernel_rfl) (by simp) ?_
                refine AllReadyH.cons (o := { dst := some 47, op := Op.load 23 (Operand.tmp 46), type := 23, pos := "ref.go:398", after := #[{ on := 0, ground := Ground.data }], guard := none }) rfl (fun K hK => ?_) (AllReadyH.cons (o := { dst := some 57, op := Op.buildSlice 23 1 #[(0, Operand.tmp 56)], type := 23, pos := "ref.go:398", after := #[{ on := 10, ground := Ground.data }], guard := none }) rfl (fun K hK => ?_) AllReadyH.nil)
                · go_simp
                  refine hK.out _ _ (HCC.out _ (HB4.out.mono (by have := HMp.out.b3.lt; omega))) (fun hS => ?_)
                  simp only [List.setIfInBounds_toArray, List.set_cons_zero, List.set_cons_succ]
                  refine wpAnyH_ready (rs := [11]) (by kernel_rfl) (by simp) ?_
                  refine AllReadyH.cons (o := { dst := some 57, op := Op.buildSlice 23 1 #[(0, Operand.tmp 56)], type := 23, pos := "ref.go:398", after := #[{ on := 10, ground := Ground.data }], guard := none }) rfl (fun K hK => ?_) AllReadyH.nil
                  go_simp
                  refine hK.out _ _ (HCC.out _ ((HB4.out.trans (((Below.refl w4.heap.size w4).alloc (Nat.le_refl _) _).mono HB4.out.size)).mono (by have := HMp.out.b3.lt; omega))) (fun hS => ?_)
                  simp only [List.setIfInBounds_toArray, List.set_cons_zero, List.set_cons_succ]
                  refine wpAnyH_ready (rs := [12]) (by kernel_rfl) (by simp) ?_
                  refine AllReadyH.cons (o := { dst := some 58, op := Op.call { callee := Callee.builtin Builtin.append, args := #[Operand.tmp 47, Operand.tmp 57], argTypes := #[23, 23] }, type := 23, pos := "ref.go:398", after := #[{ on := 1, ground := Ground.data }, { on := 11, ground := Ground.data }, { on := 10, ground := Ground.chain }], guard := none }) rfl (fun K hK => ?_) AllReadyH.nil
                  have _ := HM4
                  have hba : Below w4.heap.size w4 (w4.alloc (.cells #[.slice A4 n4 c4, .int .i64 (madeRow (r.1, r.2) i).2] 37)) := (Below.refl w4.heap.size w4).alloc (Nat.le_refl _) _
                  refine step_pushR rfl (.tmp 47) (.tmp 57) 23 rfl app23 (w.heap.size + 3) RA k rc _ rfl (HM4.out.rows.below hba) w4.heap.size (.slice A4 n4 c4) (.int .i64 (madeRow (r.1, r.2) i).2) (madeRow (r.1, r.2) i) rfl (Blk.new w4 37 _) (RowIn.far (HM4.out.rows.below hba) (HR4.out.old (Old.of_below hba)) (fun j hj => (HMp.out.rows.lt j hj).2)) (by omega) (by have := HM4.out.b3.lt; simp; omega) ?_
                  intro R2 rc2 w8 hR8 hgr
                  have HNM := Lib.hid ((HM4.out.below_ hba).pushRow hR8 hgr)
                  have HB8 := Lib.hid (show Below (w.heap.size + 3) wp w8 from ((HB4.out.trans (hba.mono HB4.out.size)).mono (by have := HMp.out.b3.lt; omega)).trans ((Below.refl (w.heap.size + 3) (w4.alloc (.cells #[.slice A4 n4 c4, .int .i64 (madeRow (r.1, r.2) i).2] 37))).grown hgr (by have := HM4.out.b3.lt; simp; omega) (fun q hq => ((HM4.out.rows.below hba).lt q hq).1)))
                  have q3 := HNM.out.1.cell 1
                  have f3 := HNM.out.1.frozen 1
                  clear hR8 hgr hba
                  refine hK.out _ _ (HCC.out _ HB8.out) (fun hS => ?_)
                  simp only [Act.put, List.setIfInBounds_toArray, List.set_cons_zero, List.set_cons_succ]
                  refine wpAnyH_take (i := 13) (oi := { dst := some 59, op := Op.fieldAddr 25 (Operand.tmp 3) 1, type := 0, pos := "ref.go:398", after := #[{ on := 0, ground := Ground.phase }, { on := 1, ground := Ground.phase }, { on := 2, ground := Ground.phase }, { on := 3, ground := Ground.phase }, { on := 4, ground := Ground.phase }, { on := 5, ground := Ground.phase }, { on := 6, ground := Ground.phase }, { on := 7, ground := Ground.phase }, { on := 8, ground := Ground.phase }, { on := 9, ground := Ground.phase }, { on := 10, ground := Ground.phase }, { on := 11, ground := Ground.phase }, { on := 12, ground := Ground.phase }], guard := none }) (v := .pointer (some ⟨w.heap.size + 2, 1, none⟩)) rfl (by kernel_rfl) (by kernel_rfl) (by kernel_rfl) (fun _ _ _ h => h) (Or.inl ⟨by rfl, fun W hSW => ?_⟩) (by assumption) ?_
                  · dsimp only at hSW
                    go_simp
                  simp only [Act.put, List.setIfInBounds_toArray, List.set_cons_zero, List.set_cons_succ]
                  refine wpAnyH_ready (rs := [14]) (by kernel_rfl) (by simp) ?_
                  refine AllReadyH.cons (o := { dst := none, op := Op.store 23 (Operand.tmp 59) (Operand.tmp 58), type := 0, pos := "ref.go:398", after := #[{ on := 13, ground := Ground.data }, { on := 12, ground := Ground.data }, { on := 12, ground := Ground.chain }, { on := 0, ground := Ground.phase }, { on := 1, ground := Ground.phase }, { on := 2, ground := Ground.phase }, { on := 3, ground := Ground.phase }, { on := 4, ground := Ground.phase }, { on := 5, ground := Ground.phase }, { on := 6, ground := Ground.phase }, { on := 7, ground := Ground.phase }, { on := 8, ground := Ground.phase }, { on := 9, ground := Ground.phase }, { on := 10, ground := Ground.phase }, { on := 11, ground := Ground.phase }, { on := 12, ground := Ground.phase }], guard := none }) rfl (fun K hK => ?_) AllReadyH.nil
                  go_simp
                  refine hK.out _ _ (⟨HNM.out.2.b1.cell 1, cell_at (p := ad2.add (k * 2)) ((HNM.out.2.below.block _ (by rw [block_of_add]; exact Had.out)).trans (HMp.out.below.block _ (by rw [block_of_add]; exact Had.out)).symm) HCu.out, cell_at ((HNM.out.2.below.block _ (by show (ad2.add (k * 2)).block < w.heap.size; rw [block_of_add]; exact Had.out)).trans (HMp.out.below.block _ (by show (ad2.add (k * 2)).block < w.heap.size; rw [block_of_add]; exact Had.out)).symm) HCv.out, HNM.out.2.b3.cell 0⟩) (fun hS => ?_)
                  simp only [List.setIfInBounds_toArray, List.set_cons_zero, List.set_cons_succ]
                  refine wpAnyH_done (by kernel_rfl) ?_ _
                  clear t1a t1b t1c q3 f3
                  go_wp2_with fail
                  go_roundw
                  case rel => exact ⟨k + 1, R2, rc2, by omega, by omega, by go_num, by rw [HTk.out, List.map_append]; exact HNM.out.2⟩
                  case measure => simp [intOf]; omega
                · go_simp
                  refine hK.out _ _ (HCC.out _ ((HB4.out.trans (((Below.refl w4.heap.size w4).alloc (Nat.le_refl _) _).mono HB4.out.size)).mono (by have := HMp.out.b3.lt; omega))) (fun hS => ?_)
                  simp only [List.setIfInBounds_toArray, List.set_cons_zero, List.set_cons_succ]
                  refine wpAnyH_ready (rs := [1]) (by kernel_rfl) (by simp) ?_
                  refine AllReadyH.cons (o := { dst := some 47, op := Op.load 23 (Operand.tmp 46), type := 23, pos := "ref.go:398", after := #[{ on := 0, ground := Ground.data }], guard := none }) rfl (fun K hK => ?_) AllReadyH.nil
                  go_simp
                  refine hK.out _ _ (HCC.out _ ((HB4.out.trans (((Below.refl w4.heap.size w4).alloc (Nat.le_refl _) _).mono HB4.out.size)).mono (by have := HMp.out.b3.lt; omega))) (fun hS => ?_)
                  simp only [List.setIfInBounds_toArray, List.set_cons_zero, List.set_cons_succ]
                  refine wpAnyH_ready (rs := [12]) (by kernel_rfl) (by simp) ?_
                  refine AllReadyH.cons (o := { dst := some 58, op := Op.call { callee := Callee.builtin Builtin.append, args := #[Operand.tmp 47, Operand.tmp 57], argTypes := #[23, 23] }, type := 23, pos := "ref.go:398", after := #[{ on := 1, ground := Ground.data }, { on := 11, ground := Ground.data }, { on := 10, ground := Ground.chain }], guard := none }) rfl (fun K hK => ?_) AllReadyH.nil
                  have _ := HM4
                  have hba : Below w4.heap.size w4 (w4.alloc (.cells #[.slice A4 n4 c4, .int .i64 (madeRow (r.1, r.2) i).2] 37)) := (Below.refl w4.heap.size w4).alloc (Nat.le_refl _) _
                  refine step_pushR rfl (.tmp 47) (.tmp 57) 23 rfl app23 (w.heap.size + 3) RA k rc _ rfl (HM4.out.rows.below hba) w4.heap.size (.slice A4 n4 c4) (.int .i64 (madeRow (r.1, r.2) i).2) (madeRow (r.1, r.2) i) rfl (Blk.new w4 37 _) (RowIn.far (HM4.out.rows.below hba) (HR4.out.old (Old.of_below hba)) (fun j hj => (HMp.out.rows.lt j hj).2)) (by omega) (by have := HM4.out.b3.lt; simp; omega) ?_
                  intro R2 rc2 w8 hR8 hgr
                  have HNM := Lib.hid ((HM4.out.below_ hba).pushRow hR8 hgr)
                  have HB8 := Lib.hid (show Below (w.heap.size + 3) wp w8 from ((HB4.out.trans (hba.mono HB4.out.size)).mono (by have := HMp.out.b3.lt; omega)).trans ((Below.refl (w.heap.size + 3) (w4.alloc (.cells #[.slice A4 n4 c4, .int .i64 (madeRow (r.1, r.2) i).2] 37))).grown hgr (by have := HM4.out.b3.lt; simp; omega) (fun q hq => ((HM4.out.rows.below hba).lt q hq).1)))
                  have q3 := HNM.out.1.cell 1
                  have f3 := HNM.out.1.frozen 1
                  clear hR8 hgr hba
                  refine hK.out _ _ (HCC.out _ HB8.out) (fun hS => ?_)
                  simp only [Act.put, List.setIfInBounds_toArray, List.set_cons_zero, List.set_cons_succ]
                  refine wpAnyH_take (i := 13) (oi := { dst := some 59, op := Op.fieldAddr 25 (Operand.tmp 3) 1, type := 0, pos := "ref.go:398", after := #[{ on := 0, ground := Ground.phase }, { on := 1, ground := Ground.phase }, { on := 2, ground := Ground.phase }, { on := 3, ground := Ground.phase }, { on := 4, ground := Ground.phase }, { on := 5, ground := Ground.phase }, { on := 6, ground := Ground.phase }, { on := 7, ground := Ground.phase }, { on := 8, ground := Ground.phase }, { on := 9, ground := Ground.phase }, { on := 10, ground := Ground.phase }, { on := 11, ground := Ground.phase }, { on := 12, ground := Ground.phase }], guard := none }) (v := .pointer (some ⟨w.heap.size + 2, 1, none⟩)) rfl (by kernel_rfl) (by kernel_rfl) (by kernel_rfl) (fun _ _ _ h => h) (Or.inl ⟨by rfl, fun W hSW => ?_⟩) (by assumption) ?_
                  · dsimp only at hSW
                    go_simp
                  simp only [Act.put, List.setIfInBounds_toArray, List.set_cons_zero, List.set_cons_succ]
                  refine wpAnyH_ready (rs := [14]) (by kernel_rfl) (by simp) ?_
                  refine AllReadyH.cons (o := { dst := none, op := Op.store 23 (Operand.tmp 59) (Operand.tmp 58), type := 0, pos := "ref.go:398", after := #[{ on := 13, ground := Ground.data }, { on := 12, ground := Ground.data }, { on := 12, ground := Ground.chain }, { on := 0, ground := Ground.phase }, { on := 1, ground := Ground.phase }, { on := 2, ground := Ground.phase }, { on := 3, ground := Ground.phase }, { on := 4, ground := Ground.phase }, { on := 5, ground := Ground.phase }, { on := 6, ground := Ground.phase }, { on := 7, ground := Ground.phase }, { on := 8, ground := Ground.phase }, { on := 9, ground := Ground.phase }, { on := 10, ground := Ground.phase }, { on := 11, ground := Ground.phase }, { on := 12, ground := Ground.phase }], guard := none }) rfl (fun K hK => ?_) AllReadyH.nil
                  go_simp
                  refine hK.out _ _ (⟨HNM.out.2.b1.cell 1, cell_at (p := ad2.add (k * 2)) ((HNM.out.2.below.block _ (by rw [block_of_add]; exact Had.out)).trans (HMp.out.below.block _ (by rw [block_of_add]; exact Had.out)).symm) HCu.out, cell_at ((HNM.out.2.below.block _ (by show (ad2.add (k * 2)).block < w.heap.size; rw [block_of_add]; exact Had.out)).trans (HMp.out.below.block _ (by show (ad2.add (k * 2)).block < w.heap.size; rw [block_of_add]; exact Had.out)).symm) HCv.out, HNM.out.2.b3.cell 0⟩) (fun hS => ?_)
                  simp only [List.setIfInBounds_toArray, List.set_cons_zero, List.set_cons_succ]
                  refine wpAnyH_done (by kernel_rfl) ?_ _
                  clear t1a t1b t1c q3 f3
                  go_wp2_with fail
                  go_roundw
                  case rel => exact ⟨k + 1, R2, rc2, by omega, by omega, by go_num, by rw [HTk.out, List.map_append]; exact HNM.out.2⟩
                  case measure => simp [intOf]; omega
            · have d2 : decide ((k : Int) < 6) = false := by simp; omega
              have d2n : decide (k < 6) = false := decide_eq_false hk2
              have HEr := Lib.hid (show (madeS s).2 = (s.2.take k).map fun r => madeRow r i by rw [madeS_rows, HTn.out, show k = 6 by omega])
              clear hm
              go_wp2_with (first
                | (refine wpList_store_blk rfl 25 (.tmp 2) (.tmp 60) rfl rfl (w.heap.size + 1) #[.slice TA i tc, .slice RA k rc] _ 25 rfl rfl HMp.out.b2 size25 rfl (by simp [Value.oneCell']) ?_
                   intro w9 hk9 ho9
                   have HK9 := Lib.hid hk9
                   have HB9 := Lib.hid (below_only HMp.out.below ho9 (by omega))
                   have HT9 := Lib.hid (show OwnS w9 (w.heap.size + 3) 3 1 TA i tc ((madeS s).1.map (Value.int .i64)) from OwnS.only (s := 1) HMp.out.top ho9 (fun e => by have := (HMp.out.top.lt _ e).1; omega))
                   have HR9 := Lib.hid (show RR w9 TT RA k rc ((s.2.take k).map fun r => madeRow r i) from HMp.out.rows.store25 HMp.out.b2 hk9 ho9 (by omega))
                   clear hk9 ho9)
                | (refine wpList_load_blk rfl 25 (.tmp 3) rfl (w.heap.size + 2) rfl 25 #[.slice TA i tc, .slice RA k rc] _ HMp.out.b3 Try.underlying25 rfl size25 ?_))
              refine bodyPost_ret (results_cell rfl _ _ (w.heap.size + 1) rfl 25 _ HK9.out Try.underlying25 rfl size25) rfl ?_
              exact ⟨_, _, _, _, _, _, rfl, (show Own w9 (w.heap.size + 3) 3 TA i tc ((madeS s).1.map (Value.int .i64)) from HT9.out).r1 (fun _ _ => trivial) (by omega) (madeS_i64 s), by rw [HEr.out]; exact HR9.out, HB9.out⟩
          · have d1 : decide ((k : Int) < m) = false := by simp; omega
            have d1n : decide (k < m) = false := decide_eq_false hk1
            have HEr := Lib.hid (show (madeS s).2 = (s.2.take k).map fun r => madeRow r i by rw [madeS_rows, HTn.out, List.take_of_length_le (show s.2.length ≤ 6 by omega), List.take_of_length_le (show s.2.length ≤ k by omega)])
            clear hm
            go_wp2_with (first
              | (refine wpList_store_blk rfl 25 (.tmp 2) (.tmp 60) rfl rfl (w.heap.size + 1) #[.slice TA i tc, .slice RA k rc] _ 25 rfl rfl HMp.out.b2 size25 rfl (by simp [Value.oneCell']) ?_
                 intro w9 hk9 ho9
                 have HK9 := Lib.hid hk9
                 have HB9 := Lib.hid (below_only HMp.out.below ho9 (by omega))
                 have HT9 := Lib.hid (show OwnS w9 (w.heap.size + 3) 3 1 TA i tc ((madeS s).1.map (Value.int .i64)) from OwnS.only (s := 1) HMp.out.top ho9 (fun e => by have := (HMp.out.top.lt _ e).1; omega))
                 have HR9 := Lib.hid (show RR w9 TT RA k rc ((s.2.take k).map fun r => madeRow r i) from HMp.out.rows.store25 HMp.out.b2 hk9 ho9 (by omega))
                 clear hk9 ho9)
              | (refine wpList_load_blk rfl 25 (.tmp 3) rfl (w.heap.size + 2) rfl 25 #[.slice TA i tc, .slice RA k rc] _ HMp.out.b3 Try.underlying25 rfl size25 ?_))
            refine bodyPost_ret (results_cell rfl _ _ (w.heap.size + 1) rfl 25 _ HK9.out Try.underlying25 rfl size25) rfl ?_
            exact ⟨_, _, _, _, _, _, rfl, (show Own w9 (w.heap.size + 3) 3 TA i tc ((madeS s).1.map (Value.int .i64)) from HT9.out).r1 (fun _ _ => trivial) (by omega) (madeS_i64 s), by rw [HEr.out]; exact HR9.out, HB9.out⟩
    · have d1 : decide ((i : Int) < n) = false := by simp; omega
      have d1n : decide (i < n) = false := decide_eq_false h1
      by_cases h0 : i = 0
      · subst h0
        obtain rfl : n = 0 := by omega
        have e0 : s.1 = [] := List.eq_nil_of_length_eq_zero (by omega)
        have HE0 := Lib.hid e0
        clear e0
        have HL := Lib.hid (show MdMem w A 0 c B m d (some ⟨wo.heap.size, 0, none⟩) 1 1 (madeS s).1 none 0 0 [] ((wo.alloc (.cells #[.int .i64 3] 3)).setCell ⟨w.heap.size + 2, 0, none⟩ (.slice (some ⟨wo.heap.size, 0, none⟩) 1 1)) from by
          have e : (madeS s).1 = [3] := by simp only [madeS]; rw [HE0.out]; rfl
          rw [e]
          exact (hm.below_ ((Below.refl wo.heap.size wo).alloc (Nat.le_refl _) _)).setTop (top2 := [3]) (OwnS.lit (s := 1) 3 1 #[.int .i64 3] (by have := hm.b3.lt; omega) (by omega) rfl))
        have hb3 := (hm.b3.alloc (.cells #[.int .i64 3] 3))
        have q0 := hb3.cell 0
        have f0 := hb3.frozen 0
        have i1 : (1 : Nat) ≤ 12 := by omega
        clear hm hb3
        go_wp2_with fail
        clear q0 f0
        generalize hw9 : (wo.alloc (.cells #[.int .i64 3] 3)).setCell ⟨w.heap.size + 2, 0, none⟩ (.slice (some ⟨wo.heap.size, 0, none⟩) 1 1) = w9 at *
        clear hw9
        have HMs := HL
        try simp only [show ((0 : Nat) : Int) = 0 from rfl]
        have htn : (madeS s).1.length = 1 := by have := HMs.out.top.len; simpa using this
        have HTn := Lib.hid htn
        have HM1 := Lib.hid (show MdMem w A 0 c B m d (some ⟨wo.heap.size, 0, none⟩) 1 1 (madeS s).1 none 0 0 ((s.2.take 0).map fun r => madeRow r 1) w9 from HMs.out)
        clear htn b0 b1 t0
        go_loopw [5] (fun s5 wr => ∃ (k : Nat) (RA : Option Addr) (rc : Nat), k ≤ m ∧ k ≤ 6 ∧ s5 = .int .i64 k ∧ MdMem w A 0 c B m d (some ⟨wo.heap.size, 0, none⟩) 1 1 (madeS s).1 RA k rc ((s.2.take k).map fun r => madeRow r 1) wr) (fun s5 _ => m - (intOf s5).toNat)
        case atStart => exact ⟨0, none, 0, Nat.zero_le _, Nat.zero_le _, rfl, HM1.out⟩
        case round =>
          clear HM1 HMs
          obtain ⟨k, RA, rc, hkm, hk6, rfl, hm⟩ := hrel
          obtain ⟨wp, rfl⟩ : ∃ wp : World, wp = wr := ⟨_, rfl⟩
          have HMp := Lib.hid hm
          have p1 : wp.cell? ⟨w.heap.size, 1, none⟩ = some (.slice B m d) := hm.b1.cell 1
          by_cases hk1 : k < m
          · have d1 : decide ((k : Int) < m) = true := by simp; omega
            have d1n : decide (k < m) = true := decide_eq_true hk1
            by_cases hk2 : k < 6
            · have d2 : decide ((k : Int) < 6) = true := by simp; omega
              have d2n : decide (k < 6) = true := decide_eq_true hk2
              obtain ⟨ad2, r, A', n', c', rfl, hadlt, hr, hcu, hcv, hR, hI⟩ := ((H2.out.weak (K' := fun q => q < w.heap.size) fun q hq _ => hq).below hm.below).at_ hk1
              have hki : (k : Int) < m := by omega
              have HRr := Lib.hid hR
              have HIr := Lib.hid hI
              have HTk := Lib.hid (take_snoc_of hr)
              have t1a : wp.cell? ⟨w.heap.size + 2, 1, none⟩ = some (.slice RA k rc) := hm.b3.cell 1
              have hcv' : wp.cell? ⟨(ad2.add (k * 2)).block, (ad2.add (k * 2)).off + 1, none⟩ = some (.int .i64 r.2) := by
                rw [← add_lit (ad2.add (k * 2)) (j := 1) (by decide), add_of_add]; exact hcv
              have HCC := Lib.hid (fun (W : World) (hb : Below (w.heap.size + 3) wp W) => show W.cell? ⟨w.heap.size, 1, none⟩ = some (.slice (some ad2) m d) ∧ W.cell? (ad2.add (k * 2)) = some (.slice A' n' c') ∧ W.cell? ⟨(ad2.add (k * 2)).block, (ad2.add (k * 2)).off + 1, none⟩ = some (.int .i64 r.2) ∧ W.cell? ⟨w.heap.size + 2, 0, none⟩ = some (.slice (some ⟨wo.heap.size, 0, none⟩) 1 1) from
                ⟨(hm.b1.below hb (by omega)).cell 1, cell_at (hb.block _ (by rw [block_of_add]; omega)) hcu, cell_at (hb.block _ (by show (ad2.add (k * 2)).block < w.heap.size + 3; rw [block_of_add]; omega)) hcv', (hm.b3.below hb (by omega)).cell 0⟩)
              have Had := Lib.hid hadlt
              have HCu := Lib.hid hcu
              have HCv := Lib.hid hcv'
              clear hm hcu hcv hR hI hr hcv' hadlt
              go_upto_region 11 with fail
              clear p1
              refine wp_region_held_drew (S := fun w' => w'.cell? ⟨w.heap.size, 1, none⟩ = some (.slice (some ad2) m d) ∧ w'.cell? (ad2.add (k * 2)) = some (.slice A' n' c') ∧ w'.cell? ⟨(ad2.add (k * 2)).block, (ad2.add (k * 2)).off + 1, none⟩ = some (.int .i64 r.2) ∧ w'.cell? ⟨w.heap.size + 2, 0, none⟩ = some (.slice (some ⟨wo.heap.size, 0, none⟩) 1 1)) (by kernel_rfl) (HCC.out _ ((Below.refl (w.heap.size + 3) wp).drew)) ?_
              intro hS
              change wpAnyH _ _ _ _ _ 15 #[false, false, false, false, false, false, false, false, false, false, false, false, false, false, false] _ _
              refine wpAnyH_take (i := 0) (oi := { dst := some 46, op := Op.fieldAddr 25 (Operand.tmp 3) 1, type := 0, pos := "ref.go:398", after := #[], guard := none }) (v := .pointer (some ⟨w.heap.size + 2, 1, none⟩)) rfl (by kernel_rfl) (by kernel_rfl) (by kernel_rfl) (fun _ _ _ h => h) (Or.inl ⟨by rfl, fun W hSW => ?_⟩) (by assumption) ?_
              · dsimp only at hSW
                go_simp
              simp only [Act.put, List.setIfInBounds_toArray, List.set_cons_zero, List.set_cons_succ]
              refine wpAnyH_take (i := 2) (oi := { dst := some 48, op := Op.fieldAddr 25 (Operand.tmp 1) 1, type := 0, pos := "ref.go:398", after := #[], guard := none }) (v := .pointer (some ⟨w.heap.size, 1, none⟩)) rfl (by kernel_rfl) (by kernel_rfl) (by kernel_rfl) (fun _ _ _ h => h) (Or.inl ⟨by rfl, fun W hSW => ?_⟩) (by assumption) ?_
              · dsimp only at hSW
                go_simp
              simp only [Act.put, List.setIfInBounds_toArray, List.set_cons_zero, List.set_cons_succ]
              refine wpAnyH_take (i := 3) (oi := { dst := some 49, op := Op.load 23 (Operand.tmp 48), type := 23, pos := "ref.go:398", after := #[{ on := 2, ground := Ground.data }], guard := none }) (v := .slice (some ad2) m d) rfl (by kernel_rfl) (by kernel_rfl) (by kernel_rfl) (fun _ _ _ h => h) (Or.inl ⟨by rfl, fun W hSW => ?_⟩) (by assumption) ?_
              · dsimp only at hSW
                go_simp
              simp only [Act.put, List.setIfInBounds_toArray, List.set_cons_zero, List.set_cons_succ]
              refine wpAnyH_take (i := 4) (oi := { dst := some 50, op := Op.move (Operand.tmp 5), type := 3, pos := "ref.go:398", after := #[], guard := none }) (v := .int .i64 k) rfl (by kernel_rfl) (by kernel_rfl) (by kernel_rfl) (fun _ _ _ h => h) (Or.inl ⟨by rfl, fun W hSW => ?_⟩) (by assumption) ?_
              · dsimp only at hSW
                go_simp
              simp only [Act.put, List.setIfInBounds_toArray, List.set_cons_zero, List.set_cons_succ]
              refine wpAnyH_take (i := 5) (oi := { dst := some 51, op := Op.indexAddr 23 (Operand.tmp 49) (Operand.tmp 50), type := 0, pos := "ref.go:398", after := #[{ on := 3, ground := Ground.data }, { on := 4, ground := Ground.data }], guard := none }) (v := .pointer (some (ad2.add (k * 2)))) rfl (by kernel_rfl) (by kernel_rfl) (by kernel_rfl) (fun _ _ _ h => h) (Or.inl ⟨by rfl, fun W hSW => ?_⟩) (by assumption) ?_
              · dsimp only at hSW
                go_simp
              simp only [Act.put, List.setIfInBounds_toArray, List.set_cons_zero, List.set_cons_succ]
              refine wpAnyH_take (i := 6) (oi := { dst := some 52, op := Op.load 37 (Operand.tmp 51), type := 37, pos := "ref.go:398", after := #[{ on := 5, ground := Ground.data }], guard := none }) (v := .agg #[.slice A' n' c', .int .i64 r.2]) rfl (by kernel_rfl) (by kernel_rfl) (by kernel_rfl) (fun _ _ _ h => h) (Or.inl ⟨by rfl, fun W hSW => ?_⟩) (by assumption) ?_
              · dsimp only at hSW
                go_simp
              simp only [Act.put, List.setIfInBounds_toArray, List.set_cons_zero, List.set_cons_succ]
              refine wpAnyH_take (i := 7) (oi := { dst := some 53, op := Op.fieldAddr 25 (Operand.tmp 3) 0, type := 0, pos := "ref.go:398", after := #[], guard := none }) (v := .pointer (some ⟨w.heap.size + 2, 0, none⟩)) rfl (by kernel_rfl) (by kernel_rfl) (by kernel_rfl) (fun _ _ _ h => h) (Or.inl ⟨by rfl, fun W hSW => ?_⟩) (by assumption) ?_
              · dsimp only at hSW
                go_simp
              simp only [Act.put, List.setIfInBounds_toArray, List.set_cons_zero, List.set_cons_succ]
              refine wpAnyH_take (i := 8) (oi := { dst := some 54, op := Op.load 22 (Operand.tmp 53), type := 22, pos := "ref.go:398", after := #[{ on := 7, ground := Ground.data }], guard := none }) (v := .slice (some ⟨wo.heap.size, 0, none⟩) 1 1) rfl (by kernel_rfl) (by kernel_rfl) (by kernel_rfl) (fun _ _ _ h => h) (Or.inl ⟨by rfl, fun W hSW => ?_⟩) (by assumption) ?_
              · dsimp only at hSW
                go_simp
              simp only [Act.put, List.setIfInBounds_toArray, List.set_cons_zero, List.set_cons_succ]
              refine wpAnyH_take (i := 9) (oi := { dst := some 55, op := Op.call { callee := Callee.builtin Builtin.len, args := #[Operand.tmp 54], argTypes := #[22] }, type := 3, pos := "ref.go:398", after := #[{ on := 8, ground := Ground.data }], guard := none }) (v := .int .i64 1) rfl (by kernel_rfl) (by kernel_rfl) (by kernel_rfl) (fun _ _ _ h => h) (Or.inl ⟨by rfl, fun W hSW => ?_⟩) (by assumption) ?_
              · dsimp only at hSW
                go_simp
              simp only [Act.put, List.setIfInBounds_toArray, List.set_cons_zero, List.set_cons_succ]
              refine wpAnyH_ready (rs := [1, 10]) (by kernel_rfl) (by simp) ?_
              refine AllReadyH.cons (o := { dst := some 47, op := Op.load 23 (Operand.tmp 46), type := 23, pos := "ref.go:398", after := #[{ on := 0, ground := Ground.data }], guard := none }) rfl (fun K hK => ?_) (AllReadyH.cons (o := { dst := some 56, op := Op.call { callee := Callee.value (Operand.func 16), args := #[Operand.tmp 52, Operand.tmp 55], argTypes := #[37, 3] }, type := 37, pos := "ref.go:398", after := #[{ on := 6, ground := Ground.data }, { on := 9, ground := Ground.data }], guard := none }) rfl (fun K hK => ?_) AllReadyH.nil)
              · go_simp
                refine hK.out _ _ (HCC.out _ ((Below.refl (w.heap.size + 3) wp).drew)) (fun hS => ?_)
                simp only [List.setIfInBounds_toArray, List.set_cons_zero, List.set_cons_succ]
                refine wpAnyH_ready (rs := [10]) (by kernel_rfl) (by simp) ?_
                refine AllReadyH.cons (o := { dst := some 56, op := Op.call { callee := Callee.value (Operand.func 16), args := #[Operand.tmp 52, Operand.tmp 55], argTypes := #[37, 3] }, type := 37, pos := "ref.go:398", after := #[{ on := 6, ground := Ground.data }, { on := 9, ground := Ground.data }], guard := none }) rfl (fun K hK => ?_) AllReadyH.nil
                refine step_call rfl 16 #[.agg #[.slice A' n' c', .int .i64 r.2], .int .i64 (1 : Nat)] (by go_simp) ((madeRow_c TT A' n' c' 1 r.1 r.2 wp.drew ((HRr.out.weak (fun _ _ _ => trivial)).below ((Below.refl wp.heap.size wp).drew)) HIr.out i1).mono ?_)
                rintro e w4 ⟨_, _, rfl, ⟨A4, n4, c4, rfl, rfl, hR4, hI4⟩, hb4⟩
                refine ⟨_, rfl, ?_⟩
                have hbw4 : Below wp.heap.size wp w4 := ((Below.refl wp.heap.size wp).drew).trans hb4
                have HB4 := Lib.hid hbw4
                have HM4 := Lib.hid (HMp.out.below_ hbw4)
                have HR4 := Lib.hid (show RowIn w4 (fun k => wp.heap.size ≤ k) (.slice A4 n4 c4) (.int .i64 (madeRow (r.1, r.2) 1).2) (madeRow (r.1, r.2) 1) from ⟨A4, n4, c4, rfl, rfl, hR4, hI4⟩)
                have t1b : w4.cell? ⟨w.heap.size + 2, 1, none⟩ = some (.slice RA k rc) := HM4.out.b3.cell 1
                have t1c : (w4.alloc (.cells #[.slice A4 n4 c4, .int .i64 (madeRow (r.1, r.2) 1).2] 37)).cell? ⟨w.heap.size + 2, 1, none⟩ = some (.slice RA k rc) := (HM4.out.b3.alloc _).cell 1
                clear hR4 hI4 hb4 hbw4
                refine hK.out _ _ (HCC.out _ (HB4.out.mono (by have := HMp.out.b3.lt; omega))) (fun hS => ?_)
                simp only [Act.put, List.setIfInBounds_toArray, List.set_cons_zero, List.set_cons_succ]
                refine wpAnyH_ready (rs := [11]) (by kernel_rfl) (by simp) ?_
                refine AllReadyH.cons (o := { dst := some 57, op := Op.buildSlice 23 1 #[(0, Operand.tmp 56)], type := 23, pos := "ref.go:398", after := #[{ on := 10, ground := Ground.data }], guard := none }) rfl (fun K hK => ?_) AllReadyH.nil
                go_simp
                refine hK.out _ _ (HCC.out _ ((HB4.out.trans (((Below.refl w4.heap.size w4).alloc (Nat.le_refl _) _).mono HB4.out.size)).mono (by have := HMp.out.b3.lt; omega))) (fun hS => ?_)
                simp only [List.setIfInBounds_toArray, List.set_cons_zero, List.set_cons_succ]
                refine wpAnyH_ready (rs := [12]) (by kernel_rfl) (by simp) ?_
                refine AllReadyH.cons (o := { dst := some 58, op := Op.call { callee := Callee.builtin Builtin.append, args := #[Operand.tmp 47, Operand.tmp 57], argTypes := #[23, 23] }, type := 23, pos := "ref.go:398", after := #[{ on := 1, ground := Ground.data }, { on := 11, ground := Ground.data }, { on := 10, ground := Ground.chain }], guard := none }) rfl (fun K hK => ?_) AllReadyH.nil
                have _ := HM4
                have hba : Below w4.heap.size w4 (w4.alloc (.cells #[.slice A4 n4 c4, .int .i64 (madeRow (r.1, r.2) 1).2] 37)) := (Below.refl w4.heap.size w4).alloc (Nat.le_refl _) _
                refine step_pushR rfl (.tmp 47) (.tmp 57) 23 rfl app23 (w.heap.size + 3) RA k rc _ rfl (HM4.out.rows.below hba) w4.heap.size (.slice A4 n4 c4) (.int .i64 (madeRow (r.1, r.2) 1).2) (madeRow (r.1, r.2) 1) rfl (Blk.new w4 37 _) (RowIn.far (HM4.out.rows.below hba) (HR4.out.old (Old.of_below hba)) (fun j hj => (HMp.out.rows.lt j hj).2)) (by omega) (by have := HM4.out.b3.lt; simp; omega) ?_
                intro R2 rc2 w8 hR8 hgr
                have HNM := Lib.hid ((HM4.out.below_ hba).pushRow hR8 hgr)
                have HB8 := Lib.hid (show Below (w.heap.size + 3) wp w8 from ((HB4.out.trans (hba.mono HB4.out.size)).mono (by have := HMp.out.b3.lt; omega)).trans ((Below.refl (w.heap.size + 3) (w4.alloc (.cells #[.slice A4 n4 c4, .int .i64 (madeRow (r.1, r.2) 1).2] 37))).grown hgr (by have := HM4.out.b3.lt; simp; omega) (fun q hq => ((HM4.out.rows.below hba).lt q hq).1)))
                have q3 := HNM.out.1.cell 1
                have f3 := HNM.out.1.frozen 1
                clear hR8 hgr hba
                refine hK.out _ _ (HCC.out _ HB8.out) (fun hS => ?_)
                simp only [Act.put, List.setIfInBounds_toArray, List.set_cons_zero, List.set_cons_succ]
                refine wpAnyH_take (i := 13) (oi := { dst := some 59, op := Op.fieldAddr 25 (Operand.tmp 3) 1, type := 0, pos := "ref.go:398", after := #[{ on := 0, ground := Ground.phase }, { on := 1, ground := Ground.phase }, { on := 2, ground := Ground.phase }, { on := 3, ground := Ground.phase }, { on := 4, ground := Ground.phase }, { on := 5, ground := Ground.phase }, { on := 6, ground := Ground.phase }, { on := 7, ground := Ground.phase }, { on := 8, ground := Ground.phase }, { on := 9, ground := Ground.phase }, { on := 10, ground := Ground.phase }, { on := 11, ground := Ground.phase }, { on := 12, ground := Ground.phase }], guard := none }) (v := .pointer (some ⟨w.heap.size + 2, 1, none⟩)) rfl (by kernel_rfl) (by kernel_rfl) (by kernel_rfl) (fun _ _ _ h => h) (Or.inl ⟨by rfl, fun W hSW => ?_⟩) (by assumption) ?_
                · dsimp only at hSW
                  go_simp
                simp only [Act.put, List.setIfInBounds_toArray, List.set_cons_zero, List.set_cons_succ]
                refine wpAnyH_ready (rs := [14]) (by kernel_rfl) (by simp) ?_
                refine AllReadyH.cons (o := { dst := none, op := Op.store 23 (Operand.tmp 59) (Operand.tmp 58), type := 0, pos := "ref.go:398", after := #[{ on := 13, ground := Ground.data }, { on := 12, ground := Ground.data }, { on := 12, ground := Ground.chain }, { on := 0, ground := Ground.phase }, { on := 1, ground := Ground.phase }, { on := 2, ground := Ground.phase }, { on := 3, ground := Ground.phase }, { on := 4, ground := Ground.phase }, { on := 5, ground := Ground.phase }, { on := 6, ground := Ground.phase }, { on := 7, ground := Ground.phase }, { on := 8, ground := Ground.phase }, { on := 9, ground := Ground.phase }, { on := 10, ground := Ground.phase }, { on := 11, ground := Ground.phase }, { on := 12, ground := Ground.phase }], guard := none }) rfl (fun K hK => ?_) AllReadyH.nil
                go_simp
                refine hK.out _ _ (⟨HNM.out.2.b1.cell 1, cell_at (p := ad2.add (k * 2)) ((HNM.out.2.below.block _ (by rw [block_of_add]; exact Had.out)).trans (HMp.out.below.block _ (by rw [block_of_add]; exact Had.out)).symm) HCu.out, cell_at ((HNM.out.2.below.block _ (by show (ad2.add (k * 2)).block < w.heap.size; rw [block_of_add]; exact Had.out)).trans (HMp.out.below.block _ (by show (ad2.add (k * 2)).block < w.heap.size; rw [block_of_add]; exact Had.out)).symm) HCv.out, HNM.out.2.b3.cell 0⟩) (fun hS => ?_)
                simp only [List.setIfInBounds_toArray, List.set_cons_zero, List.set_cons_succ]
                refine wpAnyH_done (by kernel_rfl) ?_ _
                clear t1a t1b t1c q3 f3
                go_wp2_with fail
                go_roundw
                case rel => exact ⟨k + 1, R2, rc2, by omega, by omega, by go_num, by rw [HTk.out, List.map_append]; exact HNM.out.2⟩
                case measure => simp [intOf]; omega
              · refine step_call rfl 16 #[.agg #[.slice A' n' c', .int .i64 r.2], .int .i64 (1 : Nat)] (by go_simp) ((madeRow_c TT A' n' c' 1 r.1 r.2 wp.drew ((HRr.out.weak (fun _ _ _ => trivial)).below ((Below.refl wp.heap.size wp).drew)) HIr.out i1).mono ?_)
                rintro e w4 ⟨_, _, rfl, ⟨A4, n4, c4, rfl, rfl, hR4, hI4⟩, hb4⟩
                refine ⟨_, rfl, ?_⟩
                have hbw4 : Below wp.heap.size wp w4 := ((Below.refl wp.heap.size wp).drew).trans hb4
                have HB4 := Lib.hid hbw4
                have HM4 := Lib.hid (HMp.out.below_ hbw4)
                have HR4 := Lib.hid (show RowIn w4 (fun k => wp.heap.size ≤ k) (.slice A4 n4 c4) (.int .i64 (madeRow (r.1, r.2) 1).2) (madeRow (r.1, r.2) 1) from ⟨A4, n4, c4, rfl, rfl, hR4, hI4⟩)
                have t1b : w4.cell? ⟨w.heap.size + 2, 1, none⟩ = some (.slice RA k rc) := HM4.out.b3.cell 1
                have t1c : (w4.alloc (.cells #[.slice A4 n4 c4, .int .i64 (madeRow (r.1, r.2) 1).2] 37)).cell? ⟨w.heap.size + 2, 1, none⟩ = some (.slice RA k rc) := (HM4.out.b3.alloc _).cell 1
                clear hR4 hI4 hb4 hbw4
                refine hK.out _ _ (HCC.out _ (HB4.out.mono (by have := HMp.out.b3.lt; omega))) (fun hS => ?_)
                simp only [Act.put, List.setIfInBounds_toArray, List.set_cons_zero, List.set_cons_succ]
                refine wpAnyH_ready (rs := [1, 11]) (by kernel_rfl) (by simp) ?_
                refine AllReadyH.cons (o := { dst := some 47, op := Op.load 23 (Operand.tmp 46), type := 23, pos := "ref.go:398", after := #[{ on := 0, ground := Ground.data }], guard := none }) rfl (fun K hK => ?_) (AllReadyH.cons (o := { dst := some 57, op := Op.buildSlice 23 1 #[(0, Operand.tmp 56)], type := 23, pos := "ref.go:398", after := #[{ on := 10, ground := Ground.data }], guard := none }) rfl (fun K hK => ?_) AllReadyH.nil)
                · go_simp
                  refine hK.out _ _ (HCC.out _ (HB4.out.mono (by have := HMp.out.b3.lt; omega))) (fun hS => ?_)
                  simp only [List.setIfInBounds_toArray, List.set_cons_zero, List.set_cons_succ]
                  refine wpAnyH_ready (rs := [11]) (by kernel_rfl) (by simp) ?_
                  refine AllReadyH.cons (o := { dst := some 57, op := Op.buildSlice 23 1 #[(0, Operand.tmp 56)], type := 23, pos := "ref.go:398", after := #[{ on := 10, ground := Ground.data }], guard := none }) rfl (fun K hK => ?_) AllReadyH.nil
                  go_simp
                  refine hK.out _ _ (HCC.out _ ((HB4.out.trans (((Below.refl w4.heap.size w4).alloc (Nat.le_refl _) _).mono HB4.out.size)).mono (by have := HMp.out.b3.lt; omega))) (fun hS => ?_)
                  simp only [List.setIfInBounds_toArray, List.set_cons_zero, List.set_cons_succ]
                  refine wpAnyH_ready (rs := [12]) (by kernel_rfl) (by simp) ?_
                  refine AllReadyH.cons (o := { dst := some 58, op := Op.call { callee := Callee.builtin Builtin.append, args := #[Operand.tmp 47, Operand.tmp 57], argTypes := #[23, 23] }, type := 23, pos := "ref.go:398", after := #[{ on := 1, ground := Ground.data }, { on := 11, ground := Ground.data }, { on := 10, ground := Ground.chain }], guard := none }) rfl (fun K hK => ?_) AllReadyH.nil
                  have _ := HM4
                  have hba : Below w4.heap.size w4 (w4.alloc (.cells #[.slice A4 n4 c4, .int .i64 (madeRow (r.1, r.2) 1).2] 37)) := (Below.refl w4.heap.size w4).alloc (Nat.le_refl _) _
                  refine step_pushR rfl (.tmp 47) (.tmp 57) 23 rfl app23 (w.heap.size + 3) RA k rc _ rfl (HM4.out.rows.below hba) w4.heap.size (.slice A4 n4 c4) (.int .i64 (madeRow (r.1, r.2) 1).2) (madeRow (r.1, r.2) 1) rfl (Blk.new w4 37 _) (RowIn.far (HM4.out.rows.below hba) (HR4.out.old (Old.of_below hba)) (fun j hj => (HMp.out.rows.lt j hj).2)) (by omega) (by have := HM4.out.b3.lt; simp; omega) ?_
                  intro R2 rc2 w8 hR8 hgr
                  have HNM := Lib.hid ((HM4.out.below_ hba).pushRow hR8 hgr)
                  have HB8 := Lib.hid (show Below (w.heap.size + 3) wp w8 from ((HB4.out.trans (hba.mono HB4.out.size)).mono (by have := HMp.out.b3.lt; omega)).trans ((Below.refl (w.heap.size + 3) (w4.alloc (.cells #[.slice A4 n4 c4, .int .i64 (madeRow (r.1, r.2) 1).2] 37))).grown hgr (by have := HM4.out.b3.lt; simp; omega) (fun q hq => ((HM4.out.rows.below hba).lt q hq).1)))
                  have q3 := HNM.out.1.cell 1
                  have f3 := HNM.out.1.frozen 1
                  clear hR8 hgr hba
                  refine hK.out _ _ (HCC.out _ HB8.out) (fun hS => ?_)
                  simp only [Act.put, List.setIfInBounds_toArray, List.set_cons_zero, List.set_cons_succ]
                  refine wpAnyH_take (i := 13) (oi := { dst := some 59, op := Op.fieldAddr 25 (Operand.tmp 3) 1, type := 0, pos := "ref.go:398", after := #[{ on := 0, ground := Ground.phase }, { on := 1, ground := Ground.phase }, { on := 2, ground := Ground.phase }, { on := 3, ground := Ground.phase }, { on := 4, ground := Ground.phase }, { on := 5, ground := Ground.phase }, { on := 6, ground := Ground.phase }, { on := 7, ground := Ground.phase }, { on := 8, ground := Ground.phase }, { on := 9, ground := Ground.phase }, { on := 10, ground := Ground.phase }, { on := 11, ground := Ground.phase }, { on := 12, ground := Ground.phase }], guard := none }) (v := .pointer (some ⟨w.heap.size + 2, 1, none⟩)) rfl (by kernel_rfl) (by kernel_rfl) (by kernel_rfl) (fun _ _ _ h => h) (Or.inl ⟨by rfl, fun W hSW => ?_⟩) (by assumption) ?_
                  · dsimp only at hSW
                    go_simp
                  simp only [Act.put, List.setIfInBounds_toArray, List.set_cons_zero, List.set_cons_succ]
                  refine wpAnyH_ready (rs := [14]) (by kernel_rfl) (by simp) ?_
                  refine AllReadyH.cons (o := { dst := none, op := Op.store 23 (Operand.tmp 59) (Operand.tmp 58), type := 0, pos := "ref.go:398", after := #[{ on := 13, ground := Ground.data }, { on := 12, ground := Ground.data }, { on := 12, ground := Ground.chain }, { on := 0, ground := Ground.phase }, { on := 1, ground := Ground.phase }, { on := 2, ground := Ground.phase }, { on := 3, ground := Ground.phase }, { on := 4, ground := Ground.phase }, { on := 5, ground := Ground.phase }, { on := 6, ground := Ground.phase }, { on := 7, ground := Ground.phase }, { on := 8, ground := Ground.phase }, { on := 9, ground := Ground.phase }, { on := 10, ground := Ground.phase }, { on := 11, ground := Ground.phase }, { on := 12, ground := Ground.phase }], guard := none }) rfl (fun K hK => ?_) AllReadyH.nil
                  go_simp
                  refine hK.out _ _ (⟨HNM.out.2.b1.cell 1, cell_at (p := ad2.add (k * 2)) ((HNM.out.2.below.block _ (by rw [block_of_add]; exact Had.out)).trans (HMp.out.below.block _ (by rw [block_of_add]; exact Had.out)).symm) HCu.out, cell_at ((HNM.out.2.below.block _ (by show (ad2.add (k * 2)).block < w.heap.size; rw [block_of_add]; exact Had.out)).trans (HMp.out.below.block _ (by show (ad2.add (k * 2)).block < w.heap.size; rw [block_of_add]; exact Had.out)).symm) HCv.out, HNM.out.2.b3.cell 0⟩) (fun hS => ?_)
                  simp only [List.setIfInBounds_toArray, List.set_cons_zero, List.set_cons_succ]
                  refine wpAnyH_done (by kernel_rfl) ?_ _
                  clear t1a t1b t1c q3 f3
                  go_wp2_with fail
                  go_roundw
                  case rel => exact ⟨k + 1, R2, rc2, by omega, by omega, by go_num, by rw [HTk.out, List.map_append]; exact HNM.out.2⟩
                  case measure => simp [intOf]; omega
                · go_simp
                  refine hK.out _ _ (HCC.out _ ((HB4.out.trans (((Below.refl w4.heap.size w4).alloc (Nat.le_refl _) _).mono HB4.out.size)).mono (by have := HMp.out.b3.lt; omega))) (fun hS => ?_)
                  simp only [List.setIfInBounds_toArray, List.set_cons_zero, List.set_cons_succ]
                  refine wpAnyH_ready (rs := [1]) (by kernel_rfl) (by simp) ?_
                  refine AllReadyH.cons (o := { dst := some 47, op := Op.load 23 (Operand.tmp 46), type := 23, pos := "ref.go:398", after := #[{ on := 0, ground := Ground.data }], guard := none }) rfl (fun K hK => ?_) AllReadyH.nil
                  go_simp
                  refine hK.out _ _ (HCC.out _ ((HB4.out.trans (((Below.refl w4.heap.size w4).alloc (Nat.le_refl _) _).mono HB4.out.size)).mono (by have := HMp.out.b3.lt; omega))) (fun hS => ?_)
                  simp only [List.setIfInBounds_toArray, List.set_cons_zero, List.set_cons_succ]
                  refine wpAnyH_ready (rs := [12]) (by kernel_rfl) (by simp) ?_
                  refine AllReadyH.cons (o := { dst := some 58, op := Op.call { callee := Callee.builtin Builtin.append, args := #[Operand.tmp 47, Operand.tmp 57], argTypes := #[23, 23] }, type := 23, pos := "ref.go:398", after := #[{ on := 1, ground := Ground.data }, { on := 11, ground := Ground.data }, { on := 10, ground := Ground.chain }], guard := none }) rfl (fun K hK => ?_) AllReadyH.nil
                  have _ := HM4
                  have hba : Below w4.heap.size w4 (w4.alloc (.cells #[.slice A4 n4 c4, .int .i64 (madeRow (r.1, r.2) 1).2] 37)) := (Below.refl w4.heap.size w4).alloc (Nat.le_refl _) _
                  refine step_pushR rfl (.tmp 47) (.tmp 57) 23 rfl app23 (w.heap.size + 3) RA k rc _ rfl (HM4.out.rows.below hba) w4.heap.size (.slice A4 n4 c4) (.int .i64 (madeRow (r.1, r.2) 1).2) (madeRow (r.1, r.2) 1) rfl (Blk.new w4 37 _) (RowIn.far (HM4.out.rows.below hba) (HR4.out.old (Old.of_below hba)) (fun j hj => (HMp.out.rows.lt j hj).2)) (by omega) (by have := HM4.out.b3.lt; simp; omega) ?_
                  intro R2 rc2 w8 hR8 hgr
                  have HNM := Lib.hid ((HM4.out.below_ hba).pushRow hR8 hgr)
                  have HB8 := Lib.hid (show Below (w.heap.size + 3) wp w8 from ((HB4.out.trans (hba.mono HB4.out.size)).mono (by have := HMp.out.b3.lt; omega)).trans ((Below.refl (w.heap.size + 3) (w4.alloc (.cells #[.slice A4 n4 c4, .int .i64 (madeRow (r.1, r.2) 1).2] 37))).grown hgr (by have := HM4.out.b3.lt; simp; omega) (fun q hq => ((HM4.out.rows.below hba).lt q hq).1)))
                  have q3 := HNM.out.1.cell 1
                  have f3 := HNM.out.1.frozen 1
                  clear hR8 hgr hba
                  refine hK.out _ _ (HCC.out _ HB8.out) (fun hS => ?_)
                  simp only [Act.put, List.setIfInBounds_toArray, List.set_cons_zero, List.set_cons_succ]
                  refine wpAnyH_take (i := 13) (oi := { dst := some 59, op := Op.fieldAddr 25 (Operand.tmp 3) 1, type := 0, pos := "ref.go:398", after := #[{ on := 0, ground := Ground.phase }, { on := 1, ground := Ground.phase }, { on := 2, ground := Ground.phase }, { on := 3, ground := Ground.phase }, { on := 4, ground := Ground.phase }, { on := 5, ground := Ground.phase }, { on := 6, ground := Ground.phase }, { on := 7, ground := Ground.phase }, { on := 8, ground := Ground.phase }, { on := 9, ground := Ground.phase }, { on := 10, ground := Ground.phase }, { on := 11, ground := Ground.phase }, { on := 12, ground := Ground.phase }], guard := none }) (v := .pointer (some ⟨w.heap.size + 2, 1, none⟩)) rfl (by kernel_rfl) (by kernel_rfl) (by kernel_rfl) (fun _ _ _ h => h) (Or.inl ⟨by rfl, fun W hSW => ?_⟩) (by assumption) ?_
                  · dsimp only at hSW
                    go_simp
                  simp only [Act.put, List.setIfInBounds_toArray, List.set_cons_zero, List.set_cons_succ]
                  refine wpAnyH_ready (rs := [14]) (by kernel_rfl) (by simp) ?_
                  refine AllReadyH.cons (o := { dst := none, op := Op.store 23 (Operand.tmp 59) (Operand.tmp 58), type := 0, pos := "ref.go:398", after := #[{ on := 13, ground := Ground.data }, { on := 12, ground := Ground.data }, { on := 12, ground := Ground.chain }, { on := 0, ground := Ground.phase }, { on := 1, ground := Ground.phase }, { on := 2, ground := Ground.phase }, { on := 3, ground := Ground.phase }, { on := 4, ground := Ground.phase }, { on := 5, ground := Ground.phase }, { on := 6, ground := Ground.phase }, { on := 7, ground := Ground.phase }, { on := 8, ground := Ground.phase }, { on := 9, ground := Ground.phase }, { on := 10, ground := Ground.phase }, { on := 11, ground := Ground.phase }, { on := 12, ground := Ground.phase }], guard := none }) rfl (fun K hK => ?_) AllReadyH.nil
                  go_simp
                  refine hK.out _ _ (⟨HNM.out.2.b1.cell 1, cell_at (p := ad2.add (k * 2)) ((HNM.out.2.below.block _ (by rw [block_of_add]; exact Had.out)).trans (HMp.out.below.block _ (by rw [block_of_add]; exact Had.out)).symm) HCu.out, cell_at ((HNM.out.2.below.block _ (by show (ad2.add (k * 2)).block < w.heap.size; rw [block_of_add]; exact Had.out)).trans (HMp.out.below.block _ (by show (ad2.add (k * 2)).block < w.heap.size; rw [block_of_add]; exact Had.out)).symm) HCv.out, HNM.out.2.b3.cell 0⟩) (fun hS => ?_)
                  simp only [List.setIfInBounds_toArray, List.set_cons_zero, List.set_cons_succ]
                  refine wpAnyH_done (by kernel_rfl) ?_ _
                  clear t1a t1b t1c q3 f3
                  go_wp2_with fail
                  go_roundw
                  case rel => exact ⟨k + 1, R2, rc2, by omega, by omega, by go_num, by rw [HTk.out, List.map_append]; exact HNM.out.2⟩
                  case measure => simp [intOf]; omega
            · have d2 : decide ((k : Int) < 6) = false := by simp; omega
              have d2n : decide (k < 6) = false := decide_eq_false hk2
              have HEr := Lib.hid (show (madeS s).2 = (s.2.take k).map fun r => madeRow r 1 by rw [madeS_rows, HTn.out, show k = 6 by omega])
              clear hm
              go_wp2_with (first
                | (refine wpList_store_blk rfl 25 (.tmp 2) (.tmp 60) rfl rfl (w.heap.size + 1) #[.slice (some ⟨wo.heap.size, 0, none⟩) 1 1, .slice RA k rc] _ 25 rfl rfl HMp.out.b2 size25 rfl (by simp [Value.oneCell']) ?_
                   intro w9 hk9 ho9
                   have HK9 := Lib.hid hk9
                   have HB9 := Lib.hid (below_only HMp.out.below ho9 (by omega))
                   have HT9 := Lib.hid (show OwnS w9 (w.heap.size + 3) 3 1 (some ⟨wo.heap.size, 0, none⟩) 1 1 ((madeS s).1.map (Value.int .i64)) from OwnS.only (s := 1) HMp.out.top ho9 (fun e => by have := (HMp.out.top.lt _ e).1; omega))
                   have HR9 := Lib.hid (show RR w9 TT RA k rc ((s.2.take k).map fun r => madeRow r 1) from HMp.out.rows.store25 HMp.out.b2 hk9 ho9 (by omega))
                   clear hk9 ho9)
                | (refine wpList_load_blk rfl 25 (.tmp 3) rfl (w.heap.size + 2) rfl 25 #[.slice (some ⟨wo.heap.size, 0, none⟩) 1 1, .slice RA k rc] _ HMp.out.b3 Try.underlying25 rfl size25 ?_))
              refine bodyPost_ret (results_cell rfl _ _ (w.heap.size + 1) rfl 25 _ HK9.out Try.underlying25 rfl size25) rfl ?_
              exact ⟨_, _, _, _, _, _, rfl, (show Own w9 (w.heap.size + 3) 3 (some ⟨wo.heap.size, 0, none⟩) 1 1 ((madeS s).1.map (Value.int .i64)) from HT9.out).r1 (fun _ _ => trivial) (by omega) (madeS_i64 s), by rw [HEr.out]; exact HR9.out, HB9.out⟩
          · have d1 : decide ((k : Int) < m) = false := by simp; omega
            have d1n : decide (k < m) = false := decide_eq_false hk1
            have HEr := Lib.hid (show (madeS s).2 = (s.2.take k).map fun r => madeRow r 1 by rw [madeS_rows, HTn.out, List.take_of_length_le (show s.2.length ≤ 6 by omega), List.take_of_length_le (show s.2.length ≤ k by omega)])
            clear hm
            go_wp2_with (first
              | (refine wpList_store_blk rfl 25 (.tmp 2) (.tmp 60) rfl rfl (w.heap.size + 1) #[.slice (some ⟨wo.heap.size, 0, none⟩) 1 1, .slice RA k rc] _ 25 rfl rfl HMp.out.b2 size25 rfl (by simp [Value.oneCell']) ?_
                 intro w9 hk9 ho9
                 have HK9 := Lib.hid hk9
                 have HB9 := Lib.hid (below_only HMp.out.below ho9 (by omega))
                 have HT9 := Lib.hid (show OwnS w9 (w.heap.size + 3) 3 1 (some ⟨wo.heap.size, 0, none⟩) 1 1 ((madeS s).1.map (Value.int .i64)) from OwnS.only (s := 1) HMp.out.top ho9 (fun e => by have := (HMp.out.top.lt _ e).1; omega))
                 have HR9 := Lib.hid (show RR w9 TT RA k rc ((s.2.take k).map fun r => madeRow r 1) from HMp.out.rows.store25 HMp.out.b2 hk9 ho9 (by omega))
                 clear hk9 ho9)
              | (refine wpList_load_blk rfl 25 (.tmp 3) rfl (w.heap.size + 2) rfl 25 #[.slice (some ⟨wo.heap.size, 0, none⟩) 1 1, .slice RA k rc] _ HMp.out.b3 Try.underlying25 rfl size25 ?_))
            refine bodyPost_ret (results_cell rfl _ _ (w.heap.size + 1) rfl 25 _ HK9.out Try.underlying25 rfl size25) rfl ?_
            exact ⟨_, _, _, _, _, _, rfl, (show Own w9 (w.heap.size + 3) 3 (some ⟨wo.heap.size, 0, none⟩) 1 1 ((madeS s).1.map (Value.int .i64)) from HT9.out).r1 (fun _ _ => trivial) (by omega) (madeS_i64 s), by rw [HEr.out]; exact HR9.out, HB9.out⟩
      · have e0 : ((i : Int) == 0) = false := by simp; omega
        have e0n : (i == 0) = false := by simp; omega
        have HMs := Lib.hid (show MdMem w A n c B m d TA i tc (madeS s).1 none 0 0 [] wo from by
          have e : (madeS s).1 = (s.1.take i).map fun t => foldF t 0 5 := by
            have : s.1 ≠ [] := fun e => by rw [e] at hln; simp at hln; omega
            simp only [madeS]
            rw [if_neg (by simpa using this)]
            congr 1
            rw [List.take_of_length_le (by omega), List.take_of_length_le (by omega)]
          rw [e]; exact hm)
        have htl : i ≤ 12 := by omega
        clear hm
        go_wp2_with fail
        have htn : (madeS s).1.length = i := by have := HMs.out.top.len; simpa using this
        have HTn := Lib.hid htn
        have HM1 := Lib.hid (show MdMem w A n c B m d TA i tc (madeS s).1 none 0 0 ((s.2.take 0).map fun r => madeRow r i) wo from HMs.out)
        clear htn b0 b1 t0
        go_loopw [5] (fun s5 wr => ∃ (k : Nat) (RA : Option Addr) (rc : Nat), k ≤ m ∧ k ≤ 6 ∧ s5 = .int .i64 k ∧ MdMem w A n c B m d TA i tc (madeS s).1 RA k rc ((s.2.take k).map fun r => madeRow r i) wr) (fun s5 _ => m - (intOf s5).toNat)
        case atStart => exact ⟨0, none, 0, Nat.zero_le _, Nat.zero_le _, rfl, HM1.out⟩
        case round =>
          clear HM1 HMs
          obtain ⟨k, RA, rc, hkm, hk6, rfl, hm⟩ := hrel
          obtain ⟨wp, rfl⟩ : ∃ wp : World, wp = wr := ⟨_, rfl⟩
          have HMp := Lib.hid hm
          have p1 : wp.cell? ⟨w.heap.size, 1, none⟩ = some (.slice B m d) := hm.b1.cell 1
          by_cases hk1 : k < m
          · have d1 : decide ((k : Int) < m) = true := by simp; omega
            have d1n : decide (k < m) = true := decide_eq_true hk1
            by_cases hk2 : k < 6
            · have d2 : decide ((k : Int) < 6) = true := by simp; omega
              have d2n : decide (k < 6) = true := decide_eq_true hk2
              obtain ⟨ad2, r, A', n', c', rfl, hadlt, hr, hcu, hcv, hR, hI⟩ := ((H2.out.weak (K' := fun q => q < w.heap.size) fun q hq _ => hq).below hm.below).at_ hk1
              have hki : (k : Int) < m := by omega
              have HRr := Lib.hid hR
              have HIr := Lib.hid hI
              have HTk := Lib.hid (take_snoc_of hr)
              have t1a : wp.cell? ⟨w.heap.size + 2, 1, none⟩ = some (.slice RA k rc) := hm.b3.cell 1
              have hcv' : wp.cell? ⟨(ad2.add (k * 2)).block, (ad2.add (k * 2)).off + 1, none⟩ = some (.int .i64 r.2) := by
                rw [← add_lit (ad2.add (k * 2)) (j := 1) (by decide), add_of_add]; exact hcv
              have HCC := Lib.hid (fun (W : World) (hb : Below (w.heap.size + 3) wp W) => show W.cell? ⟨w.heap.size, 1, none⟩ = some (.slice (some ad2) m d) ∧ W.cell? (ad2.add (k * 2)) = some (.slice A' n' c') ∧ W.cell? ⟨(ad2.add (k * 2)).block, (ad2.add (k * 2)).off + 1, none⟩ = some (.int .i64 r.2) ∧ W.cell? ⟨w.heap.size + 2, 0, none⟩ = some (.slice TA i tc) from
                ⟨(hm.b1.below hb (by omega)).cell 1, cell_at (hb.block _ (by rw [block_of_add]; omega)) hcu, cell_at (hb.block _ (by show (ad2.add (k * 2)).block < w.heap.size + 3; rw [block_of_add]; omega)) hcv', (hm.b3.below hb (by omega)).cell 0⟩)
              have Had := Lib.hid hadlt
              have HCu := Lib.hid hcu
              have HCv := Lib.hid hcv'
              clear hm hcu hcv hR hI hr hcv' hadlt
              go_upto_region 11 with fail
              clear p1
              refine wp_region_held_drew (S := fun w' => w'.cell? ⟨w.heap.size, 1, none⟩ = some (.slice (some ad2) m d) ∧ w'.cell? (ad2.add (k * 2)) = some (.slice A' n' c') ∧ w'.cell? ⟨(ad2.add (k * 2)).block, (ad2.add (k * 2)).off + 1, none⟩ = some (.int .i64 r.2) ∧ w'.cell? ⟨w.heap.size + 2, 0, none⟩ = some (.slice TA i tc)) (by kernel_rfl) (HCC.out _ ((Below.refl (w.heap.size + 3) wp).drew)) ?_
              intro hS
              change wpAnyH _ _ _ _ _ 15 #[false, false, false, false, false, false, false, false, false, false, false, false, false, false, false] _ _
              refine wpAnyH_take (i := 0) (oi := { dst := some 46, op := Op.fieldAddr 25 (Operand.tmp 3) 1, type := 0, pos := "ref.go:398", after := #[], guard := none }) (v := .pointer (some ⟨w.heap.size + 2, 1, none⟩)) rfl (by kernel_rfl) (by kernel_rfl) (by kernel_rfl) (fun _ _ _ h => h) (Or.inl ⟨by rfl, fun W hSW => ?_⟩) (by assumption) ?_
              · dsimp only at hSW
                go_simp
              simp only [Act.put, List.setIfInBounds_toArray, List.set_cons_zero, List.set_cons_succ]
              refine wpAnyH_take (i := 2) (oi := { dst := some 48, op := Op.fieldAddr 25 (Operand.tmp 1) 1, type := 0, pos := "ref.go:398", after := #[], guard := none }) (v := .pointer (some ⟨w.heap.size, 1, none⟩)) rfl (by kernel_rfl) (by kernel_rfl) (by kernel_rfl) (fun _ _ _ h => h) (Or.inl ⟨by rfl, fun W hSW => ?_⟩) (by assumption) ?_
              · dsimp only at hSW
                go_simp
              simp only [Act.put, List.setIfInBounds_toArray, List.set_cons_zero, List.set_cons_succ]
              refine wpAnyH_take (i := 3) (oi := { dst := some 49, op := Op.load 23 (Operand.tmp 48), type := 23, pos := "ref.go:398", after := #[{ on := 2, ground := Ground.data }], guard := none }) (v := .slice (some ad2) m d) rfl (by kernel_rfl) (by kernel_rfl) (by kernel_rfl) (fun _ _ _ h => h) (Or.inl ⟨by rfl, fun W hSW => ?_⟩) (by assumption) ?_
              · dsimp only at hSW
                go_simp
              simp only [Act.put, List.setIfInBounds_toArray, List.set_cons_zero, List.set_cons_succ]
              refine wpAnyH_take (i := 4) (oi := { dst := some 50, op := Op.move (Operand.tmp 5), type := 3, pos := "ref.go:398", after := #[], guard := none }) (v := .int .i64 k) rfl (by kernel_rfl) (by kernel_rfl) (by kernel_rfl) (fun _ _ _ h => h) (Or.inl ⟨by rfl, fun W hSW => ?_⟩) (by assumption) ?_
              · dsimp only at hSW
                go_simp
              simp only [Act.put, List.setIfInBounds_toArray, List.set_cons_zero, List.set_cons_succ]
              refine wpAnyH_take (i := 5) (oi := { dst := some 51, op := Op.indexAddr 23 (Operand.tmp 49) (Operand.tmp 50), type := 0, pos := "ref.go:398", after := #[{ on := 3, ground := Ground.data }, { on := 4, ground := Ground.data }], guard := none }) (v := .pointer (some (ad2.add (k * 2)))) rfl (by kernel_rfl) (by kernel_rfl) (by kernel_rfl) (fun _ _ _ h => h) (Or.inl ⟨by rfl, fun W hSW => ?_⟩) (by assumption) ?_
              · dsimp only at hSW
                go_simp
              simp only [Act.put, List.setIfInBounds_toArray, List.set_cons_zero, List.set_cons_succ]
              refine wpAnyH_take (i := 6) (oi := { dst := some 52, op := Op.load 37 (Operand.tmp 51), type := 37, pos := "ref.go:398", after := #[{ on := 5, ground := Ground.data }], guard := none }) (v := .agg #[.slice A' n' c', .int .i64 r.2]) rfl (by kernel_rfl) (by kernel_rfl) (by kernel_rfl) (fun _ _ _ h => h) (Or.inl ⟨by rfl, fun W hSW => ?_⟩) (by assumption) ?_
              · dsimp only at hSW
                go_simp
              simp only [Act.put, List.setIfInBounds_toArray, List.set_cons_zero, List.set_cons_succ]
              refine wpAnyH_take (i := 7) (oi := { dst := some 53, op := Op.fieldAddr 25 (Operand.tmp 3) 0, type := 0, pos := "ref.go:398", after := #[], guard := none }) (v := .pointer (some ⟨w.heap.size + 2, 0, none⟩)) rfl (by kernel_rfl) (by kernel_rfl) (by kernel_rfl) (fun _ _ _ h => h) (Or.inl ⟨by rfl, fun W hSW => ?_⟩) (by assumption) ?_
              · dsimp only at hSW
                go_simp
              simp only [Act.put, List.setIfInBounds_toArray, List.set_cons_zero, List.set_cons_succ]
              refine wpAnyH_take (i := 8) (oi := { dst := some 54, op := Op.load 22 (Operand.tmp 53), type := 22, pos := "ref.go:398", after := #[{ on := 7, ground := Ground.data }], guard := none }) (v := .slice TA i tc) rfl (by kernel_rfl) (by kernel_rfl) (by kernel_rfl) (fun _ _ _ h => h) (Or.inl ⟨by rfl, fun W hSW => ?_⟩) (by assumption) ?_
              · dsimp only at hSW
                go_simp
              simp only [Act.put, List.setIfInBounds_toArray, List.set_cons_zero, List.set_cons_succ]
              refine wpAnyH_take (i := 9) (oi := { dst := some 55, op := Op.call { callee := Callee.builtin Builtin.len, args := #[Operand.tmp 54], argTypes := #[22] }, type := 3, pos := "ref.go:398", after := #[{ on := 8, ground := Ground.data }], guard := none }) (v := .int .i64 i) rfl (by kernel_rfl) (by kernel_rfl) (by kernel_rfl) (fun _ _ _ h => h) (Or.inl ⟨by rfl, fun W hSW => ?_⟩) (by assumption) ?_
              · dsimp only at hSW
                go_simp
              simp only [Act.put, List.setIfInBounds_toArray, List.set_cons_zero, List.set_cons_succ]
              refine wpAnyH_ready (rs := [1, 10]) (by kernel_rfl) (by simp) ?_
              refine AllReadyH.cons (o := { dst := some 47, op := Op.load 23 (Operand.tmp 46), type := 23, pos := "ref.go:398", after := #[{ on := 0, ground := Ground.data }], guard := none }) rfl (fun K hK => ?_) (AllReadyH.cons (o := { dst := some 56, op := Op.call { callee := Callee.value (Operand.func 16), args := #[Operand.tmp 52, Operand.tmp 55], argTypes := #[37, 3] }, type := 37, pos := "ref.go:398", after := #[{ on := 6, ground := Ground.data }, { on := 9, ground := Ground.data }], guard := none }) rfl (fun K hK => ?_) AllReadyH.nil)
              · go_simp
                refine hK.out _ _ (HCC.out _ ((Below.refl (w.heap.size + 3) wp).drew)) (fun hS => ?_)
                simp only [List.setIfInBounds_toArray, List.set_cons_zero, List.set_cons_succ]
                refine wpAnyH_ready (rs := [10]) (by kernel_rfl) (by simp) ?_
                refine AllReadyH.cons (o := { dst := some 56, op := Op.call { callee := Callee.value (Operand.func 16), args := #[Operand.tmp 52, Operand.tmp 55], argTypes := #[37, 3] }, type := 37, pos := "ref.go:398", after := #[{ on := 6, ground := Ground.data }, { on := 9, ground := Ground.data }], guard := none }) rfl (fun K hK => ?_) AllReadyH.nil
                refine step_call rfl 16 #[.agg #[.slice A' n' c', .int .i64 r.2], .int .i64 i] (by go_simp) ((madeRow_c TT A' n' c' i r.1 r.2 wp.drew ((HRr.out.weak (fun _ _ _ => trivial)).below ((Below.refl wp.heap.size wp).drew)) HIr.out htl).mono ?_)
                rintro e w4 ⟨_, _, rfl, ⟨A4, n4, c4, rfl, rfl, hR4, hI4⟩, hb4⟩
                refine ⟨_, rfl, ?_⟩
                have hbw4 : Below wp.heap.size wp w4 := ((Below.refl wp.heap.size wp).drew).trans hb4
                have HB4 := Lib.hid hbw4
                have HM4 := Lib.hid (HMp.out.below_ hbw4)
                have HR4 := Lib.hid (show RowIn w4 (fun k => wp.heap.size ≤ k) (.slice A4 n4 c4) (.int .i64 (madeRow (r.1, r.2) i).2) (madeRow (r.1, r.2) i) from ⟨A4, n4, c4, rfl, rfl, hR4, hI4⟩)
                have t1b : w4.cell? ⟨w.heap.size + 2, 1, none⟩ = some (.slice RA k rc) := HM4.out.b3.cell 1
                have t1c : (w4.alloc (.cells #[.slice A4 n4 c4, .int .i64 (madeRow (r.1, r.2) i).2] 37)).cell? ⟨w.heap.size + 2, 1, none⟩ = some (.slice RA k rc) := (HM4.out.b3.alloc _).cell 1
                clear hR4 hI4 hb4 hbw4
                refine hK.out _ _ (HCC.out _ (HB4.out.mono (by have := HMp.out.b3.lt; omega))) (fun hS => ?_)
                simp only [Act.put, List.setIfInBounds_toArray, List.set_cons_zero, List.set_cons_succ]
                refine wpAnyH_ready (rs := [11]) (by kernel_rfl) (by simp) ?_
                refine AllReadyH.cons (o := { dst := some 57, op := Op.buildSlice 23 1 #[(0, Operand.tmp 56)], type := 23, pos := "ref.go:398", after := #[{ on := 10, ground := Ground.data }], guard := none }) rfl (fun K hK => ?_) AllReadyH.nil
                go_simp
                refine hK.out _ _ (HCC.out _ ((HB4.out.trans (((Below.refl w4.heap.size w4).alloc (Nat.le_refl _) _).mono HB4.out.size)).mono (by have := HMp.out.b3.lt; omega))) (fun hS => ?_)
                simp only [List.setIfInBounds_toArray, List.set_cons_zero, List.set_cons_succ]
                refine wpAnyH_ready (rs := [12]) (by kernel_rfl) (by simp) ?_
                refine AllReadyH.cons (o := { dst := some 58, op := Op.call { callee := Callee.builtin Builtin.append, args := #[Operand.tmp 47, Operand.tmp 57], argTypes := #[23, 23] }, type := 23, pos := "ref.go:398", after := #[{ on := 1, ground := Ground.data }, { on := 11, ground := Ground.data }, { on := 10, ground := Ground.chain }], guard := none }) rfl (fun K hK => ?_) AllReadyH.nil
                have _ := HM4
                have hba : Below w4.heap.size w4 (w4.alloc (.cells #[.slice A4 n4 c4, .int .i64 (madeRow (r.1, r.2) i).2] 37)) := (Below.refl w4.heap.size w4).alloc (Nat.le_refl _) _
                refine step_pushR rfl (.tmp 47) (.tmp 57) 23 rfl app23 (w.heap.size + 3) RA k rc _ rfl (HM4.out.rows.below hba) w4.heap.size (.slice A4 n4 c4) (.int .i64 (madeRow (r.1, r.2) i).2) (madeRow (r.1, r.2) i) rfl (Blk.new w4 37 _) (RowIn.far (HM4.out.rows.below hba) (HR4.out.old (Old.of_below hba)) (fun j hj => (HMp.out.rows.lt j hj).2)) (by omega) (by have := HM4.out.b3.lt; simp; omega) ?_
                intro R2 rc2 w8 hR8 hgr
                have HNM := Lib.hid ((HM4.out.below_ hba).pushRow hR8 hgr)
                have HB8 := Lib.hid (show Below (w.heap.size + 3) wp w8 from ((HB4.out.trans (hba.mono HB4.out.size)).mono (by have := HMp.out.b3.lt; omega)).trans ((Below.refl (w.heap.size + 3) (w4.alloc (.cells #[.slice A4 n4 c4, .int .i64 (madeRow (r.1, r.2) i).2] 37))).grown hgr (by have := HM4.out.b3.lt; simp; omega) (fun q hq => ((HM4.out.rows.below hba).lt q hq).1)))
                have q3 := HNM.out.1.cell 1
                have f3 := HNM.out.1.frozen 1
                clear hR8 hgr hba
                refine hK.out _ _ (HCC.out _ HB8.out) (fun hS => ?_)
                simp only [Act.put, List.setIfInBounds_toArray, List.set_cons_zero, List.set_cons_succ]
                refine wpAnyH_take (i := 13) (oi := { dst := some 59, op := Op.fieldAddr 25 (Operand.tmp 3) 1, type := 0, pos := "ref.go:398", after := #[{ on := 0, ground := Ground.phase }, { on := 1, ground := Ground.phase }, { on := 2, ground := Ground.phase }, { on := 3, ground := Ground.phase }, { on := 4, ground := Ground.phase }, { on := 5, ground := Ground.phase }, { on := 6, ground := Ground.phase }, { on := 7, ground := Ground.phase }, { on := 8, ground := Ground.phase }, { on := 9, ground := Ground.phase }, { on := 10, ground := Ground.phase }, { on := 11, ground := Ground.phase }, { on := 12, ground := Ground.phase }], guard := none }) (v := .pointer (some ⟨w.heap.size + 2, 1, none⟩)) rfl (by kernel_rfl) (by kernel_rfl) (by kernel_rfl) (fun _ _ _ h => h) (Or.inl ⟨by rfl, fun W hSW => ?_⟩) (by assumption) ?_
                · dsimp only at hSW
                  go_simp
                simp only [Act.put, List.setIfInBounds_toArray, List.set_cons_zero, List.set_cons_succ]
                refine wpAnyH_ready (rs := [14]) (by kernel_rfl) (by simp) ?_
                refine AllReadyH.cons (o := { dst := none, op := Op.store 23 (Operand.tmp 59) (Operand.tmp 58), type := 0, pos := "ref.go:398", after := #[{ on := 13, ground := Ground.data }, { on := 12, ground := Ground.data }, { on := 12, ground := Ground.chain }, { on := 0, ground := Ground.phase }, { on := 1, ground := Ground.phase }, { on := 2, ground := Ground.phase }, { on := 3, ground := Ground.phase }, { on := 4, ground := Ground.phase }, { on := 5, ground := Ground.phase }, { on := 6, ground := Ground.phase }, { on := 7, ground := Ground.phase }, { on := 8, ground := Ground.phase }, { on := 9, ground := Ground.phase }, { on := 10, ground := Ground.phase }, { on := 11, ground := Ground.phase }, { on := 12, ground := Ground.phase }], guard := none }) rfl (fun K hK => ?_) AllReadyH.nil
                go_simp
                refine hK.out _ _ (⟨HNM.out.2.b1.cell 1, cell_at (p := ad2.add (k * 2)) ((HNM.out.2.below.block _ (by rw [block_of_add]; exact Had.out)).trans (HMp.out.below.block _ (by rw [block_of_add]; exact Had.out)).symm) HCu.out, cell_at ((HNM.out.2.below.block _ (by show (ad2.add (k * 2)).block < w.heap.size; rw [block_of_add]; exact Had.out)).trans (HMp.out.below.block _ (by show (ad2.add (k * 2)).block < w.heap.size; rw [block_of_add]; exact Had.out)).symm) HCv.out, HNM.out.2.b3.cell 0⟩) (fun hS => ?_)
                simp only [List.setIfInBounds_toArray, List.set_cons_zero, List.set_cons_succ]
                refine wpAnyH_done (by kernel_rfl) ?_ _
                clear t1a t1b t1c q3 f3
                go_wp2_with fail
                go_roundw
                case rel => exact ⟨k + 1, R2, rc2, by omega, by omega, by go_num, by rw [HTk.out, List.map_append]; exact HNM.out.2⟩
                case measure => simp [intOf]; omega
              · refine step_call rfl 16 #[.agg #[.slice A' n' c', .int .i64 r.2], .int .i64 i] (by go_simp) ((madeRow_c TT A' n' c' i r.1 r.2 wp.drew ((HRr.out.weak (fun _ _ _ => trivial)).below ((Below.refl wp.heap.size wp).drew)) HIr.out htl).mono ?_)
                rintro e w4 ⟨_, _, rfl, ⟨A4, n4, c4, rfl, rfl, hR4, hI4⟩, hb4⟩
                refine ⟨_, rfl, ?_⟩
                have hbw4 : Below wp.heap.size wp w4 := ((Below.refl wp.heap.size wp).drew).trans hb4
                have HB4 := Lib.hid hbw4
                have HM4 := Lib.hid (HMp.out.below_ hbw4)
                have HR4 := Lib.hid (show RowIn w4 (fun k => wp.heap.size ≤ k) (.slice A4 n4 c4) (.int .i64 (madeRow (r.1, r.2) i).2) (madeRow (r.1, r.2) i) from ⟨A4, n4, c4, rfl, rfl, hR4, hI4⟩)
                have t1b : w4.cell? ⟨w.heap.size + 2, 1, none⟩ = some (.slice RA k rc) := HM4.out.b3.cell 1
                have t1c : (w4.alloc (.cells #[.slice A4 n4 c4, .int .i64 (madeRow (r.1, r.2) i).2] 37)).cell? ⟨w.heap.size + 2, 1, none⟩ = some (.slice RA k rc) := (HM4.out.b3.alloc _).cell 1
                clear hR4 hI4 hb4 hbw4
                refine hK.out _ _ (HCC.out _ (HB4.out.mono (by have := HMp.out.b3.lt; omega))) (fun hS => ?_)
                simp only [Act.put, List.setIfInBounds_toArray, List.set_cons_zero, List.set_cons_succ]
                refine wpAnyH_ready (rs := [1, 11]) (by kernel_rfl) (by simp) ?_
                refine AllReadyH.cons (o := { dst := some 47, op := Op.load 23 (Operand.tmp 46), type := 23, pos := "ref.go:398", after := #[{ on := 0, ground := Ground.data }], guard := none }) rfl (fun K hK => ?_) (AllReadyH.cons (o := { dst := some 57, op := Op.buildSlice 23 1 #[(0, Operand.tmp 56)], type := 23, pos := "ref.go:398", after := #[{ on := 10, ground := Ground.data }], guard := none }) rfl (fun K hK => ?_) AllReadyH.nil)
                · go_simp
                  refine hK.out _ _ (HCC.out _ (HB4.out.mono (by have := HMp.out.b3.lt; omega))) (fun hS => ?_)
                  simp only [List.setIfInBounds_toArray, List.set_cons_zero, List.set_cons_succ]
                  refine wpAnyH_ready (rs := [11]) (by kernel_rfl) (by simp) ?_
                  refine AllReadyH.cons (o := { dst := some 57, op := Op.buildSlice 23 1 #[(0, Operand.tmp 56)], type := 23, pos := "ref.go:398", after := #[{ on := 10, ground := Ground.data }], guard := none }) rfl (fun K hK => ?_) AllReadyH.nil
                  go_simp
                  refine hK.out _ _ (HCC.out _ ((HB4.out.trans (((Below.refl w4.heap.size w4).alloc (Nat.le_refl _) _).mono HB4.out.size)).mono (by have := HMp.out.b3.lt; omega))) (fun hS => ?_)
                  simp only [List.setIfInBounds_toArray, List.set_cons_zero, List.set_cons_succ]
                  refine wpAnyH_ready (rs := [12]) (by kernel_rfl) (by simp) ?_
                  refine AllReadyH.cons (o := { dst := some 58, op := Op.call { callee := Callee.builtin Builtin.append, args := #[Operand.tmp 47, Operand.tmp 57], argTypes := #[23, 23] }, type := 23, pos := "ref.go:398", after := #[{ on := 1, ground := Ground.data }, { on := 11, ground := Ground.data }, { on := 10, ground := Ground.chain }], guard := none }) rfl (fun K hK => ?_) AllReadyH.nil
                  have _ := HM4
                  have hba : Below w4.heap.size w4 (w4.alloc (.cells #[.slice A4 n4 c4, .int .i64 (madeRow (r.1, r.2) i).2] 37)) := (Below.refl w4.heap.size w4).alloc (Nat.le_refl _) _
                  refine step_pushR rfl (.tmp 47) (.tmp 57) 23 rfl app23 (w.heap.size + 3) RA k rc _ rfl (HM4.out.rows.below hba) w4.heap.size (.slice A4 n4 c4) (.int .i64 (madeRow (r.1, r.2) i).2) (madeRow (r.1, r.2) i) rfl (Blk.new w4 37 _) (RowIn.far (HM4.out.rows.below hba) (HR4.out.old (Old.of_below hba)) (fun j hj => (HMp.out.rows.lt j hj).2)) (by omega) (by have := HM4.out.b3.lt; simp; omega) ?_
                  intro R2 rc2 w8 hR8 hgr
                  have HNM := Lib.hid ((HM4.out.below_ hba).pushRow hR8 hgr)
                  have HB8 := Lib.hid (show Below (w.heap.size + 3) wp w8 from ((HB4.out.trans (hba.mono HB4.out.size)).mono (by have := HMp.out.b3.lt; omega)).trans ((Below.refl (w.heap.size + 3) (w4.alloc (.cells #[.slice A4 n4 c4, .int .i64 (madeRow (r.1, r.2) i).2] 37))).grown hgr (by have := HM4.out.b3.lt; simp; omega) (fun q hq => ((HM4.out.rows.below hba).lt q hq).1)))
                  have q3 := HNM.out.1.cell 1
                  have f3 := HNM.out.1.frozen 1
                  clear hR8 hgr hba
                  refine hK.out _ _ (HCC.out _ HB8.out) (fun hS => ?_)
                  simp only [Act.put, List.setIfInBounds_toArray, List.set_cons_zero, List.set_cons_succ]
                  refine wpAnyH_take (i := 13) (oi := { dst := some 59, op := Op.fieldAddr 25 (Operand.tmp 3) 1, type := 0, pos := "ref.go:398", after := #[{ on := 0, ground := Ground.phase }, { on := 1, ground := Ground.phase }, { on := 2, ground := Ground.phase }, { on := 3, ground := Ground.phase }, { on := 4, ground := Ground.phase }, { on := 5, ground := Ground.phase }, { on := 6, ground := Ground.phase }, { on := 7, ground := Ground.phase }, { on := 8, ground := Ground.phase }, { on := 9, ground := Ground.phase }, { on := 10, ground := Ground.phase }, { on := 11, ground := Ground.phase }, { on := 12, ground := Ground.phase }], guard := none }) (v := .pointer (some ⟨w.heap.size + 2, 1, none⟩)) rfl (by kernel_rfl) (by kernel_rfl) (by kernel_rfl) (fun _ _ _ h => h) (Or.inl ⟨by rfl, fun W hSW => ?_⟩) (by assumption) ?_
                  · dsimp only at hSW
                    go_simp
                  simp only [Act.put, List.setIfInBounds_toArray, List.set_cons_zero, List.set_cons_succ]
                  refine wpAnyH_ready (rs := [14]) (by kernel_rfl) (by simp) ?_
                  refine AllReadyH.cons (o := { dst := none, op := Op.store 23 (Operand.tmp 59) (Operand.tmp 58), type := 0, pos := "ref.go:398", after := #[{ on := 13, ground := Ground.data }, { on := 12, ground := Ground.data }, { on := 12, ground := Ground.chain }, { on := 0, ground := Ground.phase }, { on := 1, ground := Ground.phase }, { on := 2, ground := Ground.phase }, { on := 3, ground := Ground.phase }, { on := 4, ground := Ground.phase }, { on := 5, ground := Ground.phase }, { on := 6, ground := Ground.phase }, { on := 7, ground := Ground.phase }, { on := 8, ground := Ground.phase }, { on := 9, ground := Ground.phase }, { on := 10, ground := Ground.phase }, { on := 11, ground := Ground.phase }, { on := 12, ground := Ground.phase }], guard := none }) rfl (fun K hK => ?_) AllReadyH.nil
                  go_simp
                  refine hK.out _ _ (⟨HNM.out.2.b1.cell 1, cell_at (p := ad2.add (k * 2)) ((HNM.out.2.below.block _ (by rw [block_of_add]; exact Had.out)).trans (HMp.out.below.block _ (by rw [block_of_add]; exact Had.out)).symm) HCu.out, cell_at ((HNM.out.2.below.block _ (by show (ad2.add (k * 2)).block < w.heap.size; rw [block_of_add]; exact Had.out)).trans (HMp.out.below.block _ (by show (ad2.add (k * 2)).block < w.heap.size; rw [block_of_add]; exact Had.out)).symm) HCv.out, HNM.out.2.b3.cell 0⟩) (fun hS => ?_)
                  simp only [List.setIfInBounds_toArray, List.set_cons_zero, List.set_cons_succ]
                  refine wpAnyH_done (by kernel_rfl) ?_ _
                  clear t1a t1b t1c q3 f3
                  go_wp2_with fail
                  go_roundw
                  case rel => exact ⟨k + 1, R2, rc2, by omega, by omega, by go_num, by rw [HTk.out, List.map_append]; exact HNM.out.2⟩
                  case measure => simp [intOf]; omega
                · go_simp
                  refine hK.out _ _ (HCC.out _ ((HB4.out.trans (((Below.refl w4.heap.size w4).alloc (Nat.le_refl _) _).mono HB4.out.size)).mono (by have := HMp.out.b3.lt; omega))) (fun hS => ?_)
                  simp only [List.setIfInBounds_toArray, List.set_cons_zero, List.set_cons_succ]
                  refine wpAnyH_ready (rs := [1]) (by kernel_rfl) (by simp) ?_
                  refine AllReadyH.cons (o := { dst := some 47, op := Op.load 23 (Operand.tmp 46), type := 23, pos := "ref.go:398", after := #[{ on := 0, ground := Ground.data }], guard := none }) rfl (fun K hK => ?_) AllReadyH.nil
                  go_simp
                  refine hK.out _ _ (HCC.out _ ((HB4.out.trans (((Below.refl w4.heap.size w4).alloc (Nat.le_refl _) _).mono HB4.out.size)).mono (by have := HMp.out.b3.lt; omega))) (fun hS => ?_)
                  simp only [List.setIfInBounds_toArray, List.set_cons_zero, List.set_cons_succ]
                  refine wpAnyH_ready (rs := [12]) (by kernel_rfl) (by simp) ?_
                  refine AllReadyH.cons (o := { dst := some 58, op := Op.call { callee := Callee.builtin Builtin.append, args := #[Operand.tmp 47, Operand.tmp 57], argTypes := #[23, 23] }, type := 23, pos := "ref.go:398", after := #[{ on := 1, ground := Ground.data }, { on := 11, ground := Ground.data }, { on := 10, ground := Ground.chain }], guard := none }) rfl (fun K hK => ?_) AllReadyH.nil
                  have _ := HM4
                  have hba : Below w4.heap.size w4 (w4.alloc (.cells #[.slice A4 n4 c4, .int .i64 (madeRow (r.1, r.2) i).2] 37)) := (Below.refl w4.heap.size w4).alloc (Nat.le_refl _) _
                  refine step_pushR rfl (.tmp 47) (.tmp 57) 23 rfl app23 (w.heap.size + 3) RA k rc _ rfl (HM4.out.rows.below hba) w4.heap.size (.slice A4 n4 c4) (.int .i64 (madeRow (r.1, r.2) i).2) (madeRow (r.1, r.2) i) rfl (Blk.new w4 37 _) (RowIn.far (HM4.out.rows.below hba) (HR4.out.old (Old.of_below hba)) (fun j hj => (HMp.out.rows.lt j hj).2)) (by omega) (by have := HM4.out.b3.lt; simp; omega) ?_
                  intro R2 rc2 w8 hR8 hgr
                  have HNM := Lib.hid ((HM4.out.below_ hba).pushRow hR8 hgr)
                  have HB8 := Lib.hid (show Below (w.heap.size + 3) wp w8 from ((HB4.out.trans (hba.mono HB4.out.size)).mono (by have := HMp.out.b3.lt; omega)).trans ((Below.refl (w.heap.size + 3) (w4.alloc (.cells #[.slice A4 n4 c4, .int .i64 (madeRow (r.1, r.2) i).2] 37))).grown hgr (by have := HM4.out.b3.lt; simp; omega) (fun q hq => ((HM4.out.rows.below hba).lt q hq).1)))
                  have q3 := HNM.out.1.cell 1
                  have f3 := HNM.out.1.frozen 1
                  clear hR8 hgr hba
                  refine hK.out _ _ (HCC.out _ HB8.out) (fun hS => ?_)
                  simp only [Act.put, List.setIfInBounds_toArray, List.set_cons_zero, List.set_cons_succ]
                  refine wpAnyH_take (i := 13) (oi := { dst := some 59, op := Op.fieldAddr 25 (Operand.tmp 3) 1, type := 0, pos := "ref.go:398", after := #[{ on := 0, ground := Ground.phase }, { on := 1, ground := Ground.phase }, { on := 2, ground := Ground.phase }, { on := 3, ground := Ground.phase }, { on := 4, ground := Ground.phase }, { on := 5, ground := Ground.phase }, { on := 6, ground := Ground.phase }, { on := 7, ground := Ground.phase }, { on := 8, ground := Ground.phase }, { on := 9, ground := Ground.phase }, { on := 10, ground := Ground.phase }, { on := 11, ground := Ground.phase }, { on := 12, ground := Ground.phase }], guard := none }) (v := .pointer (some ⟨w.heap.size + 2, 1, none⟩)) rfl (by kernel_rfl) (by kernel_rfl) (by kernel_rfl) (fun _ _ _ h => h) (Or.inl ⟨by rfl, fun W hSW => ?_⟩) (by assumption) ?_
                  · dsimp only at hSW
                    go_simp
                  simp only [Act.put, List.setIfInBounds_toArray, List.set_cons_zero, List.set_cons_succ]
                  refine wpAnyH_ready (rs := [14]) (by kernel_rfl) (by simp) ?_
                  refine AllReadyH.cons (o := { dst := none, op := Op.store 23 (Operand.tmp 59) (Operand.tmp 58), type := 0, pos := "ref.go:398", after := #[{ on := 13, ground := Ground.data }, { on := 12, ground := Ground.data }, { on := 12, ground := Ground.chain }, { on := 0, ground := Ground.phase }, { on := 1, ground := Ground.phase }, { on := 2, ground := Ground.phase }, { on := 3, ground := Ground.phase }, { on := 4, ground := Ground.phase }, { on := 5, ground := Ground.phase }, { on := 6, ground := Ground.phase }, { on := 7, ground := Ground.phase }, { on := 8, ground := Ground.phase }, { on := 9, ground := Ground.phase }, { on := 10, ground := Ground.phase }, { on := 11, ground := Ground.phase }, { on := 12, ground := Ground.phase }], guard := none }) rfl (fun K hK => ?_) AllReadyH.nil
                  go_simp
                  refine hK.out _ _ (⟨HNM.out.2.b1.cell 1, cell_at (p := ad2.add (k * 2)) ((HNM.out.2.below.block _ (by rw [block_of_add]; exact Had.out)).trans (HMp.out.below.block _ (by rw [block_of_add]; exact Had.out)).symm) HCu.out, cell_at ((HNM.out.2.below.block _ (by show (ad2.add (k * 2)).block < w.heap.size; rw [block_of_add]; exact Had.out)).trans (HMp.out.below.block _ (by show (ad2.add (k * 2)).block < w.heap.size; rw [block_of_add]; exact Had.out)).symm) HCv.out, HNM.out.2.b3.cell 0⟩) (fun hS => ?_)
                  simp only [List.setIfInBounds_toArray, List.set_cons_zero, List.set_cons_succ]
                  refine wpAnyH_done (by kernel_rfl) ?_ _
                  clear t1a t1b t1c q3 f3
                  go_wp2_with fail
                  go_roundw
                  case rel => exact ⟨k + 1, R2, rc2, by omega, by omega, by go_num, by rw [HTk.out, List.map_append]; exact HNM.out.2⟩
                  case measure => simp [intOf]; omega
            · have d2 : decide ((k : Int) < 6) = false := by simp; omega
              have d2n : decide (k < 6) = false := decide_eq_false hk2
              have HEr := Lib.hid (show (madeS s).2 = (s.2.take k).map fun r => madeRow r i by rw [madeS_rows, HTn.out, show k = 6 by omega])
              clear hm
              go_wp2_with (first
                | (refine wpList_store_blk rfl 25 (.tmp 2) (.tmp 60) rfl rfl (w.heap.size + 1) #[.slice TA i tc, .slice RA k rc] _ 25 rfl rfl HMp.out.b2 size25 rfl (by simp [Value.oneCell']) ?_
                   intro w9 hk9 ho9
                   have HK9 := Lib.hid hk9
                   have HB9 := Lib.hid (below_only HMp.out.below ho9 (by omega))
                   have HT9 := Lib.hid (show OwnS w9 (w.heap.size + 3) 3 1 TA i tc ((madeS s).1.map (Value.int .i64)) from OwnS.only (s := 1) HMp.out.top ho9 (fun e => by have := (HMp.out.top.lt _ e).1; omega))
                   have HR9 := Lib.hid (show RR w9 TT RA k rc ((s.2.take k).map fun r => madeRow r i) from HMp.out.rows.store25 HMp.out.b2 hk9 ho9 (by omega))
                   clear hk9 ho9)
                | (refine wpList_load_blk rfl 25 (.tmp 3) rfl (w.heap.size + 2) rfl 25 #[.slice TA i tc, .slice RA k rc] _ HMp.out.b3 Try.underlying25 rfl size25 ?_))
              refine bodyPost_ret (results_cell rfl _ _ (w.heap.size + 1) rfl 25 _ HK9.out Try.underlying25 rfl size25) rfl ?_
              exact ⟨_, _, _, _, _, _, rfl, (show Own w9 (w.heap.size + 3) 3 TA i tc ((madeS s).1.map (Value.int .i64)) from HT9.out).r1 (fun _ _ => trivial) (by omega) (madeS_i64 s), by rw [HEr.out]; exact HR9.out, HB9.out⟩
          · have d1 : decide ((k : Int) < m) = false := by simp; omega
            have d1n : decide (k < m) = false := decide_eq_false hk1
            have HEr := Lib.hid (show (madeS s).2 = (s.2.take k).map fun r => madeRow r i by rw [madeS_rows, HTn.out, List.take_of_length_le (show s.2.length ≤ 6 by omega), List.take_of_length_le (show s.2.length ≤ k by omega)])
            clear hm
            go_wp2_with (first
              | (refine wpList_store_blk rfl 25 (.tmp 2) (.tmp 60) rfl rfl (w.heap.size + 1) #[.slice TA i tc, .slice RA k rc] _ 25 rfl rfl HMp.out.b2 size25 rfl (by simp [Value.oneCell']) ?_
                 intro w9 hk9 ho9
                 have HK9 := Lib.hid hk9
                 have HB9 := Lib.hid (below_only HMp.out.below ho9 (by omega))
                 have HT9 := Lib.hid (show OwnS w9 (w.heap.size + 3) 3 1 TA i tc ((madeS s).1.map (Value.int .i64)) from OwnS.only (s := 1) HMp.out.top ho9 (fun e => by have := (HMp.out.top.lt _ e).1; omega))
                 have HR9 := Lib.hid (show RR w9 TT RA k rc ((s.2.take k).map fun r => madeRow r i) from HMp.out.rows.store25 HMp.out.b2 hk9 ho9 (by omega))
                 clear hk9 ho9)
              | (refine wpList_load_blk rfl 25 (.tmp 3) rfl (w.heap.size + 2) rfl 25 #[.slice TA i tc, .slice RA k rc] _ HMp.out.b3 Try.underlying25 rfl size25 ?_))
            refine bodyPost_ret (results_cell rfl _ _ (w.heap.size + 1) rfl 25 _ HK9.out Try.underlying25 rfl size25) rfl ?_
            exact ⟨_, _, _, _, _, _, rfl, (show Own w9 (w.heap.size + 3) 3 TA i tc ((madeS s).1.map (Value.int .i64)) from HT9.out).r1 (fun _ _ => trivial) (by omega) (madeS_i64 s), by rw [HEr.out]; exact HR9.out, HB9.out⟩
end Go.Proofs.Ytjienelkjpodkaa
