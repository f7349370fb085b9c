/- The search of the program in memory: what it owns, what a call of it may turn. -/
import Derived.Test.YtekbkdbmkjdgbaaL1
namespace Go.Proofs.Ytekbkdbmkjdgbaa
open Go.RowKit

/-- a block that the search does not write -/
def NK (g : Nat) (fA lA : Option Addr) (k : Nat) : Prop := k ≠ g ∧ obl fA ≠ some k ∧ obl lA ≠ some k

structure Srch (w : World) (B g n : Nat) (f L : List (List Int)) (fA : Option Addr) (fn fc : Nat) (lA : Option Addr) (ln lc : Nat) : Prop where
  blk : Blk w g 53 #[.int .i64 n, .slice fA fn fc, .slice lA ln lc]
  base : B ≤ g
  fo : ∃ us, Own w B 32 fA fn fc us ∧ All1 w (NK g fA lA) us (f ++ L)
  lo : ∃ us, Own w B 32 lA ln lc us ∧ All1 w (NK g fA lA) us L
  ne : ∀ k, obl fA = some k → obl lA ≠ some k

structure Chg (g : Nat) (fA lA : Option Addr) (w w' : World) : Prop where
  os : w'.os = w.os
  tape : w'.tape = w.tape
  output : w'.output = w.output
  size : w.heap.size ≤ w'.heap.size
  old : Old (NK g fA lA) w w'

def NewOr (w : World) (A A' : Option Addr) : Prop := ∀ k, obl A' = some k → obl A = some k ∨ w.heap.size ≤ k

theorem own_ne_blk {w : World} {base n c : Nat} {e t : TypeId} {A : Option Addr} {xs : List Value} {cs : Array Value} {g : Nat} (h : Own w base e A n c xs) (hg : Blk w g t cs) (hne : e ≠ t) : obl A ≠ some g := fun ha => by
  obtain ⟨cur, hc⟩ := h.type ha
  unfold Blk at hg
  rw [hg] at hc
  injection hc with hc
  injection hc with _ ht
  exact hne ht.symm

theorem Chg.refl (g : Nat) (fA lA : Option Addr) (w : World) : Chg g fA lA w w := ⟨rfl, rfl, rfl, Nat.le_refl _, fun _ _ _ => rfl⟩
theorem Chg.of_below {g : Nat} {fA lA : Option Addr} {w w' : World} (h : Below w.heap.size w w') : Chg g fA lA w w' := ⟨h.os, h.tape, h.output, h.size, fun k _ hk => h.block k hk⟩
theorem NewOr.refl (w : World) (A : Option Addr) : NewOr w A A := fun _ h => .inl h
theorem NewOr.trans {w w' : World} {A A' A'' : Option Addr} (h : NewOr w A A') (h' : NewOr w' A' A'') (hs : w.heap.size ≤ w'.heap.size) : NewOr w A A'' := fun k hk => by
  rcases h' k hk with e | e
  · exact h k e
  · exact .inr (by omega)
theorem NK.new {g : Nat} {fA lA fA' lA' : Option Addr} {w : World} (hf : NewOr w fA fA') (hl : NewOr w lA lA') {k : Nat} (hk : k < w.heap.size) (h : NK g fA lA k) : NK g fA' lA' k := by
  refine ⟨h.1, fun e => ?_, fun e => ?_⟩
  · rcases hf k e with e | e
    · exact h.2.1 e
    · omega
  · rcases hl k e with e | e
    · exact h.2.2 e
    · omega
theorem Chg.trans {g : Nat} {fA lA fA' lA' : Option Addr} {w w' w'' : World} (h : Chg g fA lA w w') (h' : Chg g fA' lA' w' w'') (hf : NewOr w fA fA') (hl : NewOr w lA lA') : Chg g fA lA w w'' :=
  ⟨h'.os.trans h.os, h'.tape.trans h.tape, h'.output.trans h.output, Nat.le_trans h.size h'.size, fun k hk hlt => (h'.old k (NK.new hf hl hlt hk) (Nat.lt_of_lt_of_le hlt h.size)).trans (h.old k hk hlt)⟩

theorem Srch.below {w w' : World} {B g n : Nat} {f L : List (List Int)} {fA lA : Option Addr} {fn fc ln lc : Nat} (h : Srch w B g n f L fA fn fc lA ln lc) (hb : Below w.heap.size w w') : Srch w' B g n f L fA fn fc lA ln lc := by
  obtain ⟨us, h1, h2⟩ := h.fo
  obtain ⟨vs, h3, h4⟩ := h.lo
  exact ⟨h.blk.old hb, h.base, ⟨us, h1.below hb, h2.old (Old.of_below hb)⟩, ⟨vs, h3.below hb, h4.old (Old.of_below hb)⟩, h.ne⟩
/-- a store into a block of one's own that the search does not know -/
theorem Srch.only {w w' : World} {B g n q : Nat} {f L : List (List Int)} {fA lA : Option Addr} {fn fc ln lc : Nat} (h : Srch w B g n f L fA fn fc lA ln lc) (hb : Only q w w')
    (hg : g ≠ q) (hf : obl fA ≠ some q) (hl : obl lA ≠ some q) (hu : ∀ us ls, All1 w (NK g fA lA) us ls → All1 w' (NK g fA lA) us ls) : Srch w' B g n f L fA fn fc lA ln lc := by
  obtain ⟨us, h1, h2⟩ := h.fo
  obtain ⟨vs, h3, h4⟩ := h.lo
  exact ⟨h.blk.only hb hg, h.base, ⟨us, h1.only hb hf, hu _ _ h2⟩, ⟨vs, h3.only hb hl, hu _ _ h4⟩, h.ne⟩
theorem Srch.r2 {w : World} {B g n : Nat} {f L : List (List Int)} {fA lA : Option Addr} {fn fc ln lc : Nat} (h : Srch w B g n f L fA fn fc lA ln lc) (hn : fn ≤ 140737488355328) : R2 w (fun _ => True) fA fn fc (f ++ L) := by
  obtain ⟨us, h1, h2⟩ := h.fo
  exact h1.r2 (fun _ _ => trivial) hn (h2.weak fun _ _ _ => trivial)
theorem Srch.lens {w : World} {B g n : Nat} {f L : List (List Int)} {fA lA : Option Addr} {fn fc ln lc : Nat} (h : Srch w B g n f L fA fn fc lA ln lc) : fn = f.length + L.length ∧ ln = L.length := by
  obtain ⟨us, h1, h2⟩ := h.fo
  obtain ⟨vs, h3, h4⟩ := h.lo
  have e1 := h1.len
  have e2 := h2.1
  have e3 := h3.len
  have e4 := h4.1
  rw [List.length_append] at e2
  omega

theorem learn_done {w wr w2 w3 w5 w6 : World} {B g n : Nat} {f L : List (List Int)} {fA lA fA2 lA2 : Option Addr} {fn fc ln lc fc2 lc2 : Nat} {us lus : List Value} {C : Value} {c : List Int} {O1 O2 : Obj}
    (hg : Blk w g 53 #[.int .i64 n, .slice fA fn fc, .slice lA ln lc]) (hB : B ≤ g)
    (fo1 : Own w B 32 fA fn fc us) (fo2 : All1 w (NK g fA lA) us (f ++ L)) (lo1 : Own w B 32 lA ln lc lus) (lo2 : All1 w (NK g fA lA) lus L) (ne : ∀ k, obl fA = some k → obl lA ≠ some k)
    (hb : Below w.heap.size w wr) (hc : In1 wr (fun k => w.heap.size ≤ k) C c)
    (g2 : (wr.alloc O1).grownBy w2 (obl fA)) (o2 : Own w2 B 32 fA2 (fn + 1) fc2 (us ++ [C])) (n2 : obl fA2 = obl fA ∨ obl fA2 = some (wr.alloc O1).heap.size)
    (y3 : Only g w2 w3)
    (g5 : (w3.alloc O2).grownBy w5 (obl lA)) (o5 : Own w5 B 32 lA2 (ln + 1) lc2 (lus ++ [C])) (n5 : obl lA2 = obl lA ∨ obl lA2 = some (w3.alloc O2).heap.size)
    (b6 : Blk w6 g 53 #[.int .i64 n, .slice fA2 (fn + 1) fc2, .slice lA2 (ln + 1) lc2]) (y6 : Only g w5 w6) :
    Srch w6 B g n f (L ++ [c]) fA2 (fn + 1) fc2 lA2 (ln + 1) lc2 ∧ Chg g fA lA w w6 ∧ NewOr w fA fA2 ∧ NewOr w lA lA2 := by
  have hgl := hg.lt
  have s1 : w.heap.size ≤ wr.heap.size := hb.size
  have s2 : wr.heap.size + 1 ≤ w2.heap.size := by have := g2.size; simpa using this
  have s3 : w3.heap.size = w2.heap.size := y3.size
  have s5 : w3.heap.size + 1 ≤ w5.heap.size := by have := g5.size; simpa using this
  have s6 : w6.heap.size = w5.heap.size := y6.size
  have hfg : obl fA ≠ some g := own_ne_blk fo1 hg (by decide)
  have hlg : obl lA ≠ some g := own_ne_blk lo1 hg (by decide)
  have hfA := fo1.lt
  have hlA := lo1.lt
  have hfA2 := o2.lt
  -- what the whole way leaves
  have keep : ∀ k, k < wr.heap.size → NK g fA lA k → w6.heap[k]? = wr.heap[k]? := fun k hk hn => by
    rw [y6.block k hn.1, g5.block k (by simp; omega) (fun e => hn.2.2 e.symm), Below.heap_alloc _ _ _ (by omega), y3.block k hn.1, g2.block k (by simp; omega) (fun e => hn.2.1 e.symm), Below.heap_alloc _ _ _ hk]
  have nf : NewOr wr fA fA2 := fun k hk => by
    rcases n2 with e | e
    · exact .inl (by rw [← e]; exact hk)
    · rw [e] at hk; cases hk; right; simp
  have nl : NewOr wr lA lA2 := fun k hk => by
    rcases n5 with e | e
    · exact .inl (by rw [← e]; exact hk)
    · rw [e] at hk; cases hk; right; simp; omega
  have K1 : ∀ (vs : List Value) (ls : List (List Int)), All1 wr (NK g fA lA) vs ls → All1 w6 (NK g fA2 lA2) vs ls := fun vs ls h => by
    have h' : All1 wr (fun k => NK g fA lA k ∧ NK g fA2 lA2 k) vs ls := h.weak fun k hk hn => ⟨hn, NK.new nf nl hk hn⟩
    exact (h'.old (w' := w6) fun k hk hlt => keep k hlt hk.1).weak fun k _ hk => hk.2
  have hC : In1 w6 (NK g fA2 lA2) C c := by
    have h' : In1 wr (fun k => NK g fA lA k ∧ NK g fA2 lA2 k) C c := hc.weak fun k hk hn => by
      have : NK g fA lA k := ⟨by omega, fun e => by have := (hfA k e).2; omega, fun e => by have := (hlA k e).2; omega⟩
      exact ⟨this, NK.new nf nl hk this⟩
    exact (h'.old (w' := w6) fun k hk hlt => keep k hlt hk.1).weak fun k _ hk => hk.2
  have hf6 : Own w6 B 32 fA2 (fn + 1) fc2 (us ++ [C]) := o2.keep fun k hk => by
    have hlt := (hfA2 k hk).2
    have hkg : k ≠ g := by
      rintro rfl
      rcases nf k hk with e | e
      · exact hfg e
      · omega
    have hkl : some k ≠ obl lA := fun e => by
      rcases nf k hk with e' | e'
      · exact ne k e' e.symm
      · have := (hlA k e.symm).2; omega
    rw [y6.block k hkg, g5.block k (by simp; omega) hkl, Below.heap_alloc _ _ _ (by omega), y3.block k hkg]
  have hl6 : Own w6 B 32 lA2 (ln + 1) lc2 (lus ++ [C]) := o5.keep fun k hk => by
    have hkg : k ≠ g := by
      rintro rfl
      rcases nl k hk with e | e
      · exact hlg e
      · omega
    exact y6.block k hkg
  refine ⟨⟨b6, hB, ⟨_, hf6, ?_⟩, ⟨_, hl6, ?_⟩, ?_⟩, ⟨?_, ?_, ?_, by omega, ?_⟩, ?_, ?_⟩
  · rw [← List.append_assoc]
    exact (K1 _ _ (fo2.old (Old.of_below hb))).snoc hC
  · exact (K1 _ _ (lo2.old (Old.of_below hb))).snoc hC
  · intro k hk hl
    have hlt := (hfA2 k hk).2
    rcases n5 with e | e
    · rw [e] at hl
      rcases nf k hk with e' | e'
      · exact ne k e' hl
      · have := (hlA k hl).2; omega
    · rw [e] at hl
      cases hl
      simp at hlt
      omega
  · rw [y6.os, g5.os]; exact (y3.os.trans g2.os).trans hb.os
  · rw [y6.tape, g5.tape]; exact (y3.tape.trans g2.tape).trans hb.tape
  · rw [y6.output, g5.output]; exact (y3.output.trans g2.output).trans hb.output
  · intro k hk hlt
    rw [keep k (by omega) hk]; exact hb.block k hlt
  · intro k hk
    rcases nf k hk with e | e
    · exact .inl e
    · exact .inr (by omega)
  · intro k hk
    rcases nl k hk with e | e
    · exact .inl e
    · exact .inr (by omega)

end Go.Proofs.Ytekbkdbmkjdgbaa
