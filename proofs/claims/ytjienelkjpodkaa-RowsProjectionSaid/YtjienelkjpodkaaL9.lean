/- A box is built, allocated, stored. -/
import Derived.Test.YtjienelkjpodkaaW12
import Derived.Laws.Tables
namespace Go.Proofs.Ytjienelkjpodkaa
open Go.RowKit

theorem wpList_alloc58 {w : World} {ops : Array Oper} {rest : List Oper} {o : Oper} {a : Act} {Q : Exit → Act → World → Prop} (hgd : o.guard = none) (ho : o.op = .alloc 58)
    (h : ∀ w' cs, Blk w' w.heap.size 58 cs → cs.size = 49 → Below w.heap.size w w' → w'.heap.size = w.heap.size + 1 → wpList Try.prog ops Q rest (a.put o.dst (.pointer (some ⟨w.heap.size, 0, none⟩))) w') : wpList Try.prog ops Q (o :: rest) a w := by
  obtain ⟨cs, hcs, hrun⟩ := run_alloc58 (ρ := a.eval) ho
  refine wpList_plain hgd fun _ hK => ?_
  unfold Oper.wp
  rw [hrun w]
  exact hK _ _ (h _ cs (Blk.new w 58 cs) hcs ((Below.refl _ _).alloc (Nat.le_refl _) _) (by simp))

theorem built58 (v : Int) : Try.prog.built 58 [(4, .int .i64 v)] = some ((List.replicate 48 (Value.int .i64 0) ++ [Value.int .i64 v]).toArray) := by kernel_rfl

theorem wpList_build58 {w : World} {ops : Array Oper} {rest : List Oper} {o : Oper} {a : Act} {Q : Exit → Act → World → Prop} (hgd : o.guard = none) (x : Operand) (ho : o.op = .build 58 #[(4, x)]) (v : Int) (hx : a.eval x = .int .i64 v) (cells : Array Value) (hc : (List.replicate 48 (Value.int .i64 0) ++ [Value.int .i64 v]).toArray = cells)
    (h : wpList Try.prog ops Q rest (a.put o.dst (.agg cells)) w) : wpList Try.prog ops Q (o :: rest) a w := by
  subst hc
  refine wpList_plain hgd fun _ hK => ?_
  unfold Oper.wp execOp
  simp only [ho, Sem.run_bind, List.map_toArray, List.map_cons, List.map_nil, hx, run_build _ 58 _ _ (built58 v), Result.andThen_ok, Sem.run_pure]
  exact hK _ _ h
end Go.Proofs.Ytjienelkjpodkaa
namespace Go.Proofs.Ytjienelkjpodkaa
open Go.RowKit

def K5 (g : Nat) (rA aA pA : Option Addr) (k : Nat) : Prop := k ≠ g ∧ (k ≠ g + 1 ∧ k + 1 ≠ g) ∧ obl rA ≠ some k ∧ obl aA ≠ some k ∧ obl pA ≠ some k

structure StMem (w : World) (g : Nat) (t1 t2 : Value) (cs1 : Array Value) (s : Sys) (st : Begin) (rA : Option Addr) (rn rc : Nat) (rus : List Value) (aA : Option Addr) (an ac : Nat) (pA : Option Addr) (pn pc : Nat) (us : List Value) (wr : World) : Prop where
  blk : Blk wr g 63 #[t1, t2, .slice rA rn rc, .slice aA an ac, .slice pA pn pc]
  box : Blk wr (g + 1) 58 (bxv (boxF s st.n))
  rows : OwnS wr w.heap.size 37 2 rA rn rc rus
  rin : AllR wr (K5 g rA aA pA) rus st.rows
  at' : Own wr w.heap.size 3 aA an ac (st.at'.map (Value.int .i64))
  p : OwnS wr w.heap.size 49 8 pA pn pc us
  pin : AllS wr (K5 g rA aA pA) us st.p
  below : Below w.heap.size w wr
  k58 : Blk wr (w.heap.size + 1) 58 cs1

theorem ownS_ne_ownS {w : World} {B B' : Nat} {e e' : TypeId} {s s' : Nat} {A A' : Option Addr} {n n' c c' : Nat} {xs xs' : List Value} (h : OwnS w B e s A n c xs) (h' : OwnS w B' e' s' A' n' c' xs') (hne : e ≠ e') : ∀ q, obl A = some q → obl A' ≠ some q := fun q hq hq' => by
  obtain ⟨cur, hc⟩ := h.type hq
  obtain ⟨cur', hc'⟩ := h'.type hq'
  rw [hc] at hc'
  injection hc' with hc'
  injection hc' with _ h2
  exact hne h2
theorem OwnS.chg {w w' : World} {B g : Nat} {e t : TypeId} {s : Nat} {A A' : Option Addr} {n c : Nat} {xs : List Value} {cs : Array Value} (h : OwnS w B e s A n c xs) (hc : Chg g A' w w') (hg : Blk w g t cs) (he : e ≠ t) (hne : ∀ q, obl A = some q → obl A' ≠ some q) : OwnS w' B e s A n c xs :=
  h.keep fun q hq => hc.old q (fun e' => ownS_ne_blk h hg he (by rw [hq, e'])) (hne q hq) (h.lt q hq).2

theorem fld_done {w wx w9 w' : World} {g B n c c9 s j : Nat} {e : TypeId} {cs : Array Value} {A A9 : Option Addr} {us vs : List Value} (hk : Blk w g 63 cs) (he : e ≠ 63) (ho : OwnS w B e s A n c us) (hb : Below w.heap.size w wx)
    (hown : OwnS w9 B e s A9 (n + 1) c9 vs) (hgr : wx.grownBy w9 (obl A)) (hob : obl A9 = obl A ∨ obl A9 = some wx.heap.size) (hw : w'.heap = (w9.setCell ⟨g, j, none⟩ (.slice A9 (n + 1) c9)).heap) (h1 : w'.os = w9.os) (h2 : w'.tape = w9.tape) (h3 : w'.output = w9.output) :
    Blk w' g 63 (cs.setIfInBounds j (.slice A9 (n + 1) c9)) ∧ OwnS w' B e s A9 (n + 1) c9 vs ∧ Chg g A w w' ∧ NewOr w A A9 := by
  have hgl := hk.lt
  have hne := ownS_ne_blk ho hk he
  have hk9 : Blk w9 g 63 cs := (hk.old hb).grown hgr hne
  have hs := hgr.size
  have hs' := hb.size
  have hn9 : obl A9 ≠ some g := fun e => by
    rcases hob with e' | e'
    · rw [e'] at e; exact hne e
    · rw [e'] at e; cases e; omega
  have hblk : ∀ k, k ≠ g → w'.heap[k]? = w9.heap[k]? := fun k hkg => by rw [hw]; exact Below.heap_setCell w9 ⟨g, j, none⟩ _ k hkg
  have hk' := hk9.set_ j (.slice A9 (n + 1) c9)
  refine ⟨?_, hown.keep fun q hq => hblk q (fun e => hn9 (by rw [hq, e])), ⟨?_, ?_, ?_, ?_, ?_⟩, ?_⟩
  · unfold Blk at hk' ⊢
    rw [hw]; exact hk'
  · rw [h1, hgr.os]; exact hb.os
  · rw [h2, hgr.tape]; exact hb.tape
  · rw [h3, hgr.output]; exact hb.output
  · rw [hw]
    have : (w9.setCell ⟨g, j, none⟩ (.slice A9 (n + 1) c9)).heap.size = w9.heap.size := by simp [World.setCell]
    omega
  · intro k h4 h5 h6
    rw [hblk k h4, hgr.block k (by omega) (fun e => h5 e.symm)]
    exact hb.block k h6
  · intro k hk
    rcases hob with e | e
    · exact .inl (by rw [← e]; exact hk)
    · rw [e] at hk; cases hk; right; omega

theorem Chg.below {w0 w w' : World} {g : Nat} {A : Option Addr} (hb : Below w0.heap.size w0 w) (hc : Chg g A w w') (hg : w0.heap.size ≤ g) (hA : ∀ q, obl A = some q → w0.heap.size ≤ q) : Below w0.heap.size w0 w' :=
  hb.trans ⟨hc.os, hc.tape, hc.output, hc.size, fun k hk => hc.old k (by omega) (fun e => by have := hA k e; omega) (by have := hb.size; omega)⟩

section
variable {w wr w' : World} {g : Nat} {t1 t2 : Value} {cs1 : Array Value} {s : Sys} {st : Begin} {rA : Option Addr} {rn rc : Nat} {rus : List Value} {aA : Option Addr} {an ac : Nat} {pA : Option Addr} {pn pc : Nat} {us : List Value}
theorem StMem.belowed (h : StMem w g t1 t2 cs1 s st rA rn rc rus aA an ac pA pn pc us wr) (hb : Below wr.heap.size wr w') : StMem w g t1 t2 cs1 s st rA rn rc rus aA an ac pA pn pc us w' :=
  ⟨h.blk.old hb, h.box.old hb, h.rows.below hb, h.rin.old (Old.of_below hb), h.at'.below hb, h.p.below hb, h.pin.old (Old.of_below hb), h.below.trans (hb.mono h.below.size), h.k58.old hb⟩

theorem StMem.addRow {A9 : Option Addr} {c9 : Nat} {u v : Value} {r : Row} (h : StMem w g t1 t2 cs1 s st rA rn rc rus aA an ac pA pn pc us wr) (hg : w.heap.size + 2 ≤ g)
    (hk : Blk w' g 63 #[t1, t2, .slice A9 (rn + 1) c9, .slice aA an ac, .slice pA pn pc]) (ho : OwnS w' w.heap.size 37 2 A9 (rn + 1) c9 (rus ++ [u, v])) (hc : Chg g rA wr w') (hn : NewOr wr rA A9) (hr : RowIn wr (K5 g rA aA pA) u v r) :
    StMem w g t1 t2 cs1 s { st with rows := st.rows ++ [r] } A9 (rn + 1) c9 (rus ++ [u, v]) aA an ac pA pn pc us w' := by
  have keep : Old (fun k => K5 g rA aA pA k ∧ K5 g A9 aA pA k) wr w' := fun k hk hlt => hc.old k hk.1.1 hk.1.2.2.1 hlt
  have tw : ∀ k, k < wr.heap.size → K5 g rA aA pA k → K5 g rA aA pA k ∧ K5 g A9 aA pA k := fun k hlt hk => ⟨hk, hk.1, hk.2.1, fun e => by
    rcases hn k e with e | e
    · exact hk.2.2.1 e
    · omega, hk.2.2.2.1, hk.2.2.2.2⟩
  have un : ∀ k, k < w'.heap.size → K5 g rA aA pA k ∧ K5 g A9 aA pA k → K5 g A9 aA pA k := fun k _ h => h.2
  exact ⟨hk, h.box.chg hc (by omega) (ownS_ne_blk h.rows h.box (by decide)), ho, (((h.rin.snoc hr).weak tw).old keep).weak un, OwnS.chg (s := 1) h.at' hc h.blk (by decide) (ownS_ne_ownS (s := 1) h.at' h.rows (by decide)),
    h.p.chg hc h.blk (by decide) (ownS_ne_ownS h.p h.rows (by decide)), ((h.pin.weak tw).old keep).weak un, hc.below h.below (by omega) (fun q hq => (h.rows.lt q hq).1), h.k58.chg hc (by omega) (ownS_ne_blk h.rows h.k58 (by decide))⟩

theorem StMem.addAt {A9 : Option Addr} {c9 : Nat} {x : Int} (h : StMem w g t1 t2 cs1 s st rA rn rc rus aA an ac pA pn pc us wr) (hg : w.heap.size + 2 ≤ g)
    (hk : Blk w' g 63 #[t1, t2, .slice rA rn rc, .slice A9 (an + 1) c9, .slice pA pn pc]) (ho : Own w' w.heap.size 3 A9 (an + 1) c9 (st.at'.map (Value.int .i64) ++ [.int .i64 x])) (hc : Chg g aA wr w') (hn : NewOr wr aA A9) :
    StMem w g t1 t2 cs1 s { st with at' := st.at' ++ [x] } rA rn rc rus A9 (an + 1) c9 pA pn pc us w' := by
  have keep : Old (fun k => K5 g rA aA pA k ∧ K5 g rA A9 pA k) wr w' := fun k hk hlt => hc.old k hk.1.1 hk.1.2.2.2.1 hlt
  have tw : ∀ k, k < wr.heap.size → K5 g rA aA pA k → K5 g rA aA pA k ∧ K5 g rA A9 pA k := fun k hlt hk => ⟨hk, hk.1, hk.2.1, hk.2.2.1, fun e => by
    rcases hn k e with e | e
    · exact hk.2.2.2.1 e
    · omega, hk.2.2.2.2⟩
  have un : ∀ k, k < w'.heap.size → K5 g rA aA pA k ∧ K5 g rA A9 pA k → K5 g rA A9 pA k := fun k _ h => h.2
  have ha : OwnS wr w.heap.size 3 1 aA an ac (st.at'.map (Value.int .i64)) := h.at'
  refine ⟨hk, h.box.chg hc (by omega) (ownS_ne_blk ha h.box (by decide)), h.rows.chg hc h.blk (by decide) (ownS_ne_ownS h.rows ha (by decide)), ((h.rin.weak tw).old keep).weak un, ?_,
    h.p.chg hc h.blk (by decide) (ownS_ne_ownS h.p ha (by decide)), ((h.pin.weak tw).old keep).weak un, hc.below h.below (by omega) (fun q hq => (ha.lt q hq).1), h.k58.chg hc (by omega) (ownS_ne_blk ha h.k58 (by decide))⟩
  rw [List.map_append]
  exact ho

theorem StMem.addStep {A9 : Option Addr} {c9 : Nat} {x : Step} {us' : List Value} (h : StMem w g t1 t2 cs1 s st rA rn rc rus aA an ac pA pn pc us wr) (hg : w.heap.size + 2 ≤ g)
    (hk : Blk w' g 63 #[t1, t2, .slice rA rn rc, .slice aA an ac, .slice A9 (pn + 1) c9]) (ho : OwnS w' w.heap.size 49 8 A9 (pn + 1) c9 us') (hc : Chg g pA wr w') (hn : NewOr wr pA A9)
    (he : us' = us ++ stepCells x.kind (.slice none 0 0) x.r x.d x.x x.k x.next x.els) (hm : x.m = []) :
    StMem w g t1 t2 cs1 s { st with p := st.p ++ [x] } rA rn rc rus aA an ac A9 (pn + 1) c9 us' w' := by
  have keep : Old (fun k => K5 g rA aA pA k ∧ K5 g rA aA A9 k) wr w' := fun k hk hlt => hc.old k hk.1.1 hk.1.2.2.2.2 hlt
  have tw : ∀ k, k < wr.heap.size → K5 g rA aA pA k → K5 g rA aA pA k ∧ K5 g rA aA A9 k := fun k hlt hk => ⟨hk, hk.1, hk.2.1, hk.2.2.1, hk.2.2.2.1, fun e => by
    rcases hn k e with e | e
    · exact hk.2.2.2.2 e
    · omega⟩
  have un : ∀ k, k < w'.heap.size → K5 g rA aA pA k ∧ K5 g rA aA A9 k → K5 g rA aA A9 k := fun k _ h => h.2
  have ha : OwnS wr w.heap.size 3 1 aA an ac (st.at'.map (Value.int .i64)) := h.at'
  refine ⟨hk, h.box.chg hc (by omega) (ownS_ne_blk h.p h.box (by decide)), h.rows.chg hc h.blk (by decide) (ownS_ne_ownS h.rows h.p (by decide)), ((h.rin.weak tw).old keep).weak un, OwnS.chg (s := 1) ha hc h.blk (by decide) (ownS_ne_ownS ha h.p (by decide)),
    ho, ?_, hc.below h.below (by omega) (fun q hq => (h.p.lt q hq).1), h.k58.chg hc (by omega) (ownS_ne_blk h.p h.k58 (by decide))⟩
  have h1 : R1 wr (K5 g rA aA pA) none 0 0 x.m := by rw [hm]; exact R1.nil_ _ _
  have h2 := h.pin.snoc h1
  rw [← he] at h2
  exact ((h2.weak tw).old keep).weak un

theorem StMem.bump (h : StMem w g t1 t2 cs1 s st rA rn rc rus aA an ac pA pn pc us wr) (hg : w.heap.size + 2 ≤ g) (hk : Blk w' (g + 1) 58 (bxv (boxF s (st.n + 1)))) (ho : Only (g + 1) wr w') :
    StMem w g t1 t2 cs1 s { st with n := st.n + 1 } rA rn rc rus aA an ac pA pn pc us w' := by
  have keep : Old (K5 g rA aA pA) wr w' := fun k hk _ => ho.block k hk.2.1.1
  have ha : OwnS wr w.heap.size 3 1 aA an ac (st.at'.map (Value.int .i64)) := h.at'
  exact ⟨h.blk.only ho (by omega), hk, h.rows.only ho (ownS_ne_blk h.rows h.box (by decide)), h.rin.old keep, OwnS.only (s := 1) ha ho (ownS_ne_blk ha h.box (by decide)), h.p.only ho (ownS_ne_blk h.p h.box (by decide)), h.pin.old keep, below_only h.below ho (by omega), h.k58.only ho (by omega)⟩

theorem StMem.srch (A B : Option Addr) (n c m d : Nat) (K : Nat → Prop) (h : StMem w g (.slice A n c) (.slice B m d) cs1 s st rA rn rc rus aA an ac pA pn pc us wr) (hg : w.heap.size + 2 ≤ g) (ht : R1 w K A n c s.1) (hrn : rn ≤ 100000) (han : an ≤ 100000) (hat : ∀ x ∈ st.at', I64 x) :
    Srch wr w.heap.size g ⟨A, n, c, .slice B m d, rA, rn, rc, aA, an, ac, s.1, st.rows, st.at'⟩ pA pn pc st.p := by
  have ha : OwnS wr w.heap.size 3 1 aA an ac (st.at'.map (Value.int .i64)) := h.at'
  refine ⟨h.blk, by omega, ?_, ?_, ?_, us, h.p, h.pin.weak fun k _ hk => ⟨hk.1, hk.2.2.2.2⟩⟩
  · refine (ht.weak (K' := fun k => K k ∧ k < w.heap.size) fun k hlt hk => ⟨hk, hlt⟩).old (w' := wr) (fun k hk hlt => h.below.block k hlt) |>.weak fun k _ hk => ⟨by have := hk.2; omega, fun e => by have := (h.p.lt k e).1; have := hk.2; omega⟩
  · exact h.rows.rr (K := NK g pA) (fun q hq => ⟨fun e => ownS_ne_blk h.rows h.blk (by decide) (by rw [hq, e]), ownS_ne_ownS h.rows h.p (by decide) q hq⟩) (by omega) (h.rin.weak fun k _ hk => ⟨hk.1, hk.2.2.2.2⟩)
  · exact h.at'.r1 (fun q hq => ⟨fun e => ownS_ne_blk ha h.blk (by decide) (by rw [hq, e]), ownS_ne_ownS ha h.p (by decide) q hq⟩) (by omega) hat
end

end Go.Proofs.Ytjienelkjpodkaa
