/- Walks: the next row of closes. -/
import Derived.Test.YtjienelkjpodkaaW21
import Derived.Deep.RegionHeld3
import Derived.Deep.RegionLawGrows
namespace Go.Proofs.Ytjienelkjpodkaa
open Go.RowKit

abbrev TT : Nat → Prop := fun _ => True
/-- what closes does with so much fuel -/
def CIH (A : Option Addr) (n c : Nat) (B : Option Addr) (m d : Nat) (P : Option Addr) (pn pc : Nat) (p : List Step) (fu : Nat) : Prop :=
  ∀ (at' : Nat) (L : Option Addr) (ln lc : Nat) (l : List Row) (w : World), RP w TT P pn pc p → RR w TT L ln lc l → RowsOk n l → 1 ≤ ln → at' < pn → pn - at' ≤ fu → ln + (pn - at') ≤ 200000 →
    Calls Try.prog 30 #[.agg #[.slice A n c, .slice B m d], .slice P pn pc, .int .i64 at', .slice L ln lc] w (Gives w (.bool (closesF n p fu at' l)))

theorem rowsOk_snoc {n : Nat} {l : List Row} {r : Row} (h : RowsOk n l) (hr : r.1.length = n ∧ eachB r.1 (-large) large = true ∧ -large ≤ r.2 ∧ r.2 ≤ large) : RowsOk n (l ++ [r]) := fun x hx => by
  rcases List.mem_append.1 hx with hx | hx
  · exact h x hx
  · rw [List.mem_singleton] at hx; subst hx; exact hr

theorem below_grown0 {w w' : World} (h : w.grownBy w' none) : Below w.heap.size w w' := (Below.refl w.heap.size w).grown h (Nat.le_refl _) (fun k hk => by cases hk)
/-- a row is appended to a list that is full: the list is copied -/
theorem step_appendRR {P : Program} {ops : Array Oper} {o : Oper} {a : Act} {w : World} {K : Act → World → Prop} {Q : Exit → Act → World → Prop} {E : Prop} (hgd : o.guard = none) (s x : Operand) (t : TypeId)
    (ho : o.op = .call { callee := .builtin .append, args := #[s, x], argTypes := #[t, t] }) (hT : AppS P t 37 2 32) (L : Option Addr) (ln lc : Nat) (l : List Row) (hs : a.eval s = .slice L ln ln) (h2 : RR w TT L ln lc l)
    (gb : Nat) (u v : Value) (r : Row) (hx : a.eval x = .slice (some ⟨gb, 0, none⟩) 1 1) (hgb : Blk w gb 37 #[u, v]) (hr : RowIn w TT u v r) (hb : ln ≤ 1000000)
    (h : ∀ A' c' w', RR w' TT A' (ln + 1) c' (l ++ [r]) → Below w.heap.size w w' → K (a.put o.dst (.slice A' (ln + 1) c')) w') :
    if Region.wanted o (yielded ops a.tmps) = true then Oper.wp P o a w K Q else E := by
  obtain ⟨hs0, ht, i, z, hi, hz, hsz, hby, hzc⟩ := hT
  obtain ⟨us, h3, h4⟩ := h2.ex
  have hul : us.length = ln * 2 := by have := h4.1; have := h2.len; omega
  refine step_append_grows hgd s x t ho 37 i z 2 32 ht hi hz hsz hby hzc hs0 L ln ln us hs (fun hL => ?_) hul (fun b hb' j y hy => ?_) ⟨gb, 0, none⟩ 1 1 [u, v] hx rfl (fun j y hy => ?_) (fun y hy => ?_) (by omega) (by unfold maxLen; omega) (by omega) (fun v' w' hown hgr => ?_)
  · cases us with
    | nil => simp at hul; omega
    | cons y ys =>
      obtain ⟨ad, e', _⟩ := h3 0 y rfl
      rw [hL] at e'; cases e'
  · obtain ⟨ad, e', _, hc'⟩ := h3 j y hy
    rw [hb'] at e'; cases e'
    exact hc'
  · have e : (⟨gb, 0, none⟩ : Addr).add j = ⟨gb, j, none⟩ := by rw [Addr.add_mid, Nat.zero_add]
    rw [e, hgb.cell]
    simpa using hy
  · obtain ⟨A, n, c, rfl, rfl, _, _⟩ := hr
    simp at hy
    rcases hy with rfl | rfl <;> rfl
  · obtain ⟨A', c', rfl, _, _⟩ := ownS_slice hown
    have hbl := below_grown0 hgr
    have hown' : OwnS w' w.heap.size 37 2 A' (ln + 1) c' (us ++ [u, v]) := hown
    exact h A' c' w' (hown'.rr (fun _ _ => trivial) (by omega) ((h4.old (Old.of_below hbl)).snoc (hr.old (Old.of_below hbl)))) hbl

set_option maxRecDepth 100000 in
set_option maxHeartbeats 4000000 in
/-- closes$1: with one more row -/
theorem next_c (A : Option Addr) (n c : Nat) (B : Option Addr) (m d : Nat) (P : Option Addr) (pn pc : Nat) (p : List Step) (fu : Nat) (ih : CIH A n c B m d P pn pc p fu) (gs gp gl tt : Nat) (L : Option Addr) (ln lc : Nat) (l : List Row) (u v : Value) (r : Row) (w : World)
    (hs : Blk w gs 25 #[.slice A n c, .slice B m d]) (hp : Blk w gp 29 #[.slice P pn pc]) (hg : Blk w gl 23 #[.slice L ln lc]) (h1 : RP w TT P pn pc p) (h2 : RR w TT L ln lc l) (h3 : RowIn w TT u v r) (hl : RowsOk n l) (hr : r.1.length = n ∧ eachB r.1 (-large) large = true ∧ -large ≤ r.2 ∧ r.2 ≤ large)
    (hto : tt < pn) (hfu : pn - tt ≤ fu) (hb : ln + 1 + (pn - tt) ≤ 200000) :
    Calls Try.prog 41 #[.int .i64 tt, .agg #[u, v], .pointer (some ⟨gs, 0, none⟩), .pointer (some ⟨gp, 0, none⟩), .pointer (some ⟨gl, 0, none⟩)] w (Gives w (.bool (closesF n p fu tt (l ++ [r])))) := by
  obtain ⟨Ar, nr, cr, rfl, rfl, hR1, hI⟩ := h3
  have hb0 : Below w.heap.size w (w.alloc (.cells #[.slice Ar nr cr, .int .i64 r.2] 37)) := (Below.refl _ _).alloc (Nat.le_refl _) _
  have hcap := h2.cap
  have htop := h2.top
  have hlen := h2.len
  have HS0 := Lib.hid (And.intro (hs.old hb0) (And.intro (hp.old hb0) (hg.old hb0)))
  have hk0 := Blk.new w 37 #[.slice Ar nr cr, .int .i64 r.2]
  have HB0 := Lib.hid hb0
  have HK0 := Lib.hid hk0
  have H1 := Lib.hid h1
  have H2 := Lib.hid h2
  have HI := Lib.hid hI
  have HR1 := Lib.hid hR1
  have HLs := Lib.hid (rowsOk_snoc hl hr)
  have IH := Lib.hid ih
  have HFu := Lib.hid hfu
  have HBd := Lib.hid hb
  clear ih hs hp hg h1 h2 hR1 hI hb0 hk0 hl hr hfu hb
  go_enter Try.func41, Try.ntmps41
  go_wp2_with fail
  obtain ⟨w1, hw1⟩ : ∃ w1, w1 = w.alloc (.cells #[.slice Ar nr cr, .int .i64 r.2] 37) := ⟨_, rfl⟩
  rw [← hw1] at HB0 HK0 HS0 ⊢
  clear hw1
  have HC := Lib.hid (fun (W : World) (hb : Below w1.heap.size w1 W) => show W.cell? ⟨gs, 0, none⟩ = some (.slice A n c) ∧ W.cell? ⟨gs, 1, none⟩ = some (.slice B m d) ∧ W.cell? ⟨gp, 0, none⟩ = some (.slice P pn pc) ∧ W.cell? ⟨gl, 0, none⟩ = some (.slice L ln lc) ∧ W.cell? ⟨w.heap.size, 0, none⟩ = some (.slice Ar nr cr) ∧ W.cell? ⟨w.heap.size, 1, none⟩ = some (.int .i64 r.2) from
    ⟨(HS0.out.1.old hb).cell 0, (HS0.out.1.old hb).cell 1, (HS0.out.2.1.old hb).cell 0, (HS0.out.2.2.old hb).cell 0, (HK0.out.old hb).cell 0, (HK0.out.old hb).cell 1⟩)
  go_region_held3 (fun w' => w'.cell? ⟨gs, 0, none⟩ = some (.slice A n c) ∧ w'.cell? ⟨gs, 1, none⟩ = some (.slice B m d) ∧ w'.cell? ⟨gp, 0, none⟩ = some (.slice P pn pc) ∧ w'.cell? ⟨gl, 0, none⟩ = some (.slice L ln lc) ∧ w'.cell? ⟨w.heap.size, 0, none⟩ = some (.slice Ar nr cr) ∧ w'.cell? ⟨w.heap.size, 1, none⟩ = some (.int .i64 r.2))
    (first
      | exact HC.out _ ((Below.refl w1.heap.size w1).drew)
      | exact HC.out _ (((Below.refl w1.heap.size w1).drew).alloc (Nat.le_refl _) _)
      | exact HC.out _ (((Below.refl w1.heap.size w1).alloc (Nat.le_refl _) _).drew)
      | exact HC.out _ HB5.out
      | exact HC.out _ HB6.out)
    (first
      | (have _ := HB5
         refine step_call rfl 30 #[.agg #[.slice A n c, .slice B m d], .slice P pn pc, .int .i64 tt, .slice A5 (ln + 1) c5] (by go_simp) ((IH.out tt A5 (ln + 1) c5 (l ++ [r]) w5 ((H1.out.below HB0.out).below HB5.out) HR5.out HLs.out (by omega) hto HFu.out HBd.out).mono ?_)
         rintro e w6 ⟨rfl, hb6⟩
         refine ⟨_, rfl, ?_⟩
         have HB6 := Lib.hid (HB5.out.trans (hb6.mono HB5.out.size))
         clear hb6)
      | (refine step_appendRR rfl (.tmp 12) (.tmp 14) 23 rfl app23 L ln lc l rfl ((H2.out.below HB0.out).below (((Below.refl w1.heap.size w1).alloc (Nat.le_refl _) (.cells #[.slice Ar nr cr, .int .i64 r.2] 37)).drew)) w1.heap.size (.slice Ar nr cr) (.int .i64 r.2) r rfl (Blk.new w1 37 _) ⟨Ar, nr, cr, rfl, rfl, (HR1.out.below HB0.out).below (((Below.refl w1.heap.size w1).alloc (Nat.le_refl _) (.cells #[.slice Ar nr cr, .int .i64 r.2] 37)).drew), HI.out⟩ (by have := HBd.out; omega) ?_
         intro A5 c5 w5 hr5 hb5
         have HR5 := Lib.hid hr5
         have HB5 := Lib.hid ((((Below.refl w1.heap.size w1).alloc (Nat.le_refl _) (.cells #[.slice Ar nr cr, .int .i64 r.2] 37)).drew).trans (hb5.mono (by simp)))
         clear hr5 hb5)
      | (refine step_call rfl 42 #[.slice L ln lc] (by go_simp) ((clip_c L ln lc _ hcap htop).mono ?_)
         rintro e w3 ⟨rfl, rfl⟩
         refine ⟨_, rfl, ?_⟩))
  all_goals
    go_wp2_with fail
    go_ret
    exact ⟨rfl, HB0.out.trans (HB6.out.mono HB0.out.size)⟩
end Go.Proofs.Ytjienelkjpodkaa
