/- A list of rows of one's own; the whole of closes. -/
import Derived.Test.YtjienelkjpodkaaW24
namespace Go.Proofs.Ytjienelkjpodkaa
open Go.RowKit

theorem closes_c (A : Option Addr) (n c : Nat) (B : Option Addr) (m d : Nat) (P : Option Addr) (pn pc : Nat) (p : List Step) (hn1 : 1 ≤ n) (hn12 : n ≤ 12) (hnc : n ≤ c) (hp1e5 : pn ≤ 100000) (hT : TreeOk p) : ∀ fu, CIH A n c B m d P pn pc p fu
  | 0 => fun at' L ln lc l w h1 h2 hl hln hat hfu hb => by omega
  | fu + 1 => fun at' L ln lc l w h1 h2 hl hln hat hfu hb => by
    have ih := closes_c A n c B m d P pn pc p hn1 hn12 hnc hp1e5 hT fu
    have hat' : at' < p.length := by rw [h1.len]; exact hat
    have hs : p[at']? = some p[at'] := List.getElem?_eq_getElem hat'
    have hk : ∀ v, p[at'].kind = v → ∀ x, p[at']? = some x → x.kind = v := fun v hv x hx => by rw [hs] at hx; cases hx; exact hv
    rcases stepOk_kind (hT.ok at' _ hs).1 with h | h | h | h
    · exact closes_step1 A n c B m d P pn pc p fu hn1 hn12 hnc hp1e5 hT ih at' L ln lc l w h1 h2 hl hln hat hfu hb (hk 1 h)
    · exact closes_step2 A n c B m d P pn pc p fu hn1 hn12 hnc hp1e5 hT ih at' L ln lc l w h1 h2 hl hln hat hfu hb (hk 2 h)
    · exact closes_step3 A n c B m d P pn pc p fu hn1 hn12 hnc hp1e5 hT ih at' L ln lc l w h1 h2 hl hln hat hfu hb (hk 3 h)
    · exact closes_step4 A n c B m d P pn pc p fu hn1 hn12 hnc hp1e5 hT ih at' L ln lc l w h1 h2 hl hln hat hfu hb (hk 4 h)

/-- rows in a row of one's own; what they hold lies elsewhere -/
structure OwnR (w : World) (B : Nat) (L : Option Addr) (ln lc : Nat) (rs : List Row) : Prop where
  ex : ∃ us, OwnS w B 37 2 L ln lc us ∧ AllR w (fun k => obl L ≠ some k) us rs
theorem OwnR.nil_ (w : World) (B : Nat) : OwnR w B none 0 0 [] := ⟨[], OwnS.nil_ _ _ _ _, AllR.nil_ _ _⟩
theorem OwnR.len {w : World} {B : Nat} {L : Option Addr} {ln lc : Nat} {rs : List Row} (h : OwnR w B L ln lc rs) : rs.length = ln := by
  obtain ⟨us, h1, h2⟩ := h.ex
  have := h1.len; have := h2.1; omega
theorem OwnR.cap {w : World} {B : Nat} {L : Option Addr} {ln lc : Nat} {rs : List Row} (h : OwnR w B L ln lc rs) : ln ≤ lc := by
  obtain ⟨us, h1, h2⟩ := h.ex
  exact h1.cap.1
theorem OwnR.below {w w' : World} {B : Nat} {L : Option Addr} {ln lc : Nat} {rs : List Row} (h : OwnR w B L ln lc rs) (hb : Below w.heap.size w w') : OwnR w' B L ln lc rs := by
  obtain ⟨us, h1, h2⟩ := h.ex
  exact ⟨us, h1.below hb, h2.old (Old.of_below hb)⟩
theorem OwnR.rr {w : World} {B : Nat} {L : Option Addr} {ln lc : Nat} {rs : List Row} (h : OwnR w B L ln lc rs) (hn : ln ≤ 1000000) : RR w TT L ln lc rs := by
  obtain ⟨us, h1, h2⟩ := h.ex
  exact h1.rr (fun _ _ => trivial) (by omega) (h2.weak fun _ _ _ => trivial)
theorem OwnR.base {w : World} {B B' : Nat} {L : Option Addr} {ln lc : Nat} {rs : List Row} (h : OwnR w B L ln lc rs) (hb : B' ≤ B) : OwnR w B' L ln lc rs := by
  obtain ⟨us, h1, h2⟩ := h.ex
  exact ⟨us, h1.base hb, h2⟩
theorem GivesOwnR.ownR {w w' : World} {rs : List Row} {e : Ending} (h : GivesOwnR w (fun k => k < w.heap.size) rs e w') : ∃ A n c, e = .returned (.slice A n c) ∧ OwnR w' w.heap.size A n c rs ∧ Below w.heap.size w w' := by
  obtain ⟨A, n, c, us, h1, h2, h3, h4⟩ := h
  exact ⟨A, n, c, h1, ⟨us, h2, h3.weak fun k _ (hk : k < w.heap.size) e => by have := (h2.lt k e).1; omega⟩, h4⟩
theorem RowIn.far {w : World} {B : Nat} {L : Option Addr} {ln lc M : Nat} {rs : List Row} {u v : Value} {r : Row} (_h : OwnR w B L ln lc rs) (hr : RowIn w (fun k => M ≤ k) u v r) (hM : ∀ k, obl L = some k → k < M) : RowIn w (fun k => obl L ≠ some k) u v r :=
  hr.weak fun k _ (hk : M ≤ k) e => by have := hM k e; omega
theorem OwnR.lt {w : World} {B : Nat} {L : Option Addr} {ln lc : Nat} {rs : List Row} (h : OwnR w B L ln lc rs) : ∀ k, obl L = some k → B ≤ k ∧ k < w.heap.size := by
  obtain ⟨us, h1, h2⟩ := h.ex
  exact h1.lt

theorem wpList_pushR {P : Program} {w : World} {ops : Array Oper} {rest : List Oper} {o : Oper} {a : Act} {Q : Exit → Act → World → Prop} (hgd : o.guard = none) (sx x : Operand) (t : TypeId)
    (ho : o.op = .call { callee := .builtin .append, args := #[sx, x], argTypes := #[t, t] }) (hT : AppS P t 37 2 32) (B : Nat) (L : Option Addr) (ln lc : Nat) (rs : List Row) (hs : a.eval sx = .slice L ln lc) (hR : OwnR w B L ln lc rs)
    (gb : Nat) (u v : Value) (r : Row) (hx : a.eval x = .slice (some ⟨gb, 0, none⟩) 1 1) (hgb : Blk w gb 37 #[u, v]) (hr : RowIn w (fun k => obl L ≠ some k) u v r) (hb : ln ≤ 1000000) (hB : B ≤ w.heap.size)
    (h : ∀ L' lc' w', OwnR w' B L' (ln + 1) lc' (rs ++ [r]) → Below B w w' → wpList P ops Q rest (a.put o.dst (.slice L' (ln + 1) lc')) w') :
    wpList P ops Q (o :: rest) a w := by
  obtain ⟨us, h1, h2⟩ := hR.ex
  have hone : ∀ y ∈ [u, v], y.oneCell' = true := fun y hy => by
    obtain ⟨A, n, c, rfl, rfl, _, _⟩ := hr
    simp at hy
    rcases hy with rfl | rfl <;> rfl
  refine wpList_appendSS hgd sx x t ho hT B L ln lc us hs h1 (some ⟨gb, 0, none⟩) 1 1 [u, v] hx rfl (K := TT) (fun j y hy => ⟨⟨gb, 0, none⟩, rfl, trivial, ?_⟩) hone (by omega) (by omega) hB (fun L' lc' w' hown hgr hob => h L' lc' w' ⟨us ++ [u, v], hown, ?_⟩ ((Below.refl B w).grown hgr hB (fun k hk => (h1.lt k hk).1)))
  · rw [show (⟨gb, 0, none⟩ : Addr).add j = ⟨gb, j, none⟩ by rw [Addr.add_mid, Nat.zero_add], hgb.cell]
    simpa using hy
  · have ho : Old (fun k => obl L ≠ some k) w w' := Old.grown hgr (fun k hk hk' => hk' hk)
    have key : ∀ k, k < w.heap.size → obl L ≠ some k → obl L ≠ some k ∧ k < w.heap.size := fun k hk hk' => ⟨hk', hk⟩
    have h3 := (h2.snoc hr).weak key
    have h4 := h3.old (w' := w') (fun k hk _ => ho k hk.1 hk.2)
    refine h4.weak fun k _ hk e => ?_
    rcases hob with e' | e'
    · rw [e'] at e; exact hk.1 e
    · rw [e'] at e; cases e; have := hk.2; omega
end Go.Proofs.Ytjienelkjpodkaa
