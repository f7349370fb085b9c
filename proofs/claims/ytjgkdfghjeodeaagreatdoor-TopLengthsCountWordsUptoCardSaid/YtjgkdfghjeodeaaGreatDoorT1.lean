/- Memory words for the walks of this seat: a slice of integers, of slices, of bools, that reads as a list; how they are kept over calls that make memory. -/
import Derived.Test.YtjgkdfghjeodeaaGreatDoorChecked
import Derived.WalkKit
import Derived.Lib.Hide
import Derived.WalkSpells
import Derived.WalkLawsBesides
import Derived.BigQuiet
import Derived.Deep.QuietTactic
import Derived.Deep.LoopGhost
import Derived.Deep.Light
import Derived.Deep.CutRange
import Derived.Deep.Cut
import Derived.Great.Ranges
import Derived.Maps.AppendAt
import Derived.Deep.AppendLies
import Derived.Deep.RegionWith
import Derived.Deep.OwnRows
import Derived.Lib.ReflectliteSwap
namespace Go.Proofs.YtjgkdfghjeodeaaGreatDoor
open Go.RowKit

theorem block_of_add (a : Addr) (n : Nat) : (a.add n).block = a.block := by unfold Addr.add; split <;> rfl
theorem add_of_add (a : Addr) (i j : Nat) : (a.add i).add j = a.add (i + j) := by
  unfold Addr.add
  by_cases hi : i = 0 <;> by_cases hj : j = 0 <;> simp [hi, hj, Nat.add_assoc]

/-- Cells from an address on read as a list of values; all of them lie in a block that K allows. -/
def Sl (w : World) (K : Nat → Prop) (A : Option Addr) (xs : List Value) : Prop :=
  ∀ (j : Nat) (u : Value), xs[j]? = some u → ∃ ad, A = some ad ∧ K ad.block ∧ w.cell? (ad.add j) = some u

def I64 (x : Int) : Prop := -9223372036854775808 ≤ x ∧ x ≤ 9223372036854775807

structure R1 (w : World) (K : Nat → Prop) (A : Option Addr) (n c : Nat) (l : List Int) : Prop where
  len : l.length = n
  cap : n ≤ c
  big : n ≤ 140737488355328
  top : c ≤ 9223372036854775807
  wf : ∀ x ∈ l, I64 x
  sl : Sl w K A (l.map (Value.int .i64))

def In1 (w : World) (K : Nat → Prop) (u : Value) (l : List Int) : Prop := ∃ A n c, u = .slice A n c ∧ R1 w K A n c l

def All1 (w : World) (K : Nat → Prop) (us : List Value) (ls : List (List Int)) : Prop :=
  us.length = ls.length ∧ ∀ (j : Nat) (u : Value) (l : List Int), us[j]? = some u → ls[j]? = some l → In1 w K u l

structure R2 (w : World) (K : Nat → Prop) (A : Option Addr) (n c : Nat) (ls : List (List Int)) : Prop where
  len : ls.length = n
  cap : n ≤ c
  big : n ≤ 140737488355328
  top : c ≤ 9223372036854775807
  ex : ∃ us, Sl w K A us ∧ All1 w K us ls

structure RB (w : World) (K : Nat → Prop) (A : Option Addr) (n c : Nat) (l : List Bool) : Prop where
  len : l.length = n
  cap : n ≤ c
  big : n ≤ 140737488355328
  top : c ≤ 9223372036854775807
  sl : Sl w K A (l.map Value.bool)

/-- What is allowed stays as it was. -/
def Old (K : Nat → Prop) (w w' : World) : Prop := ∀ k, K k → k < w.heap.size → w'.heap[k]? = w.heap[k]?

theorem Old.refl (K : Nat → Prop) (w : World) : Old K w w := fun _ _ _ => rfl
theorem Old.of_below {K : Nat → Prop} {w w' : World} (h : Below w.heap.size w w') : Old K w w' := fun k _ hk => h.block k hk

theorem lt_of_cell {w : World} {p : Addr} {u : Value} (h : w.cell? p = some u) : p.block < w.heap.size := by
  by_cases hlt : p.block < w.heap.size
  · exact hlt
  · have hn : w.heap[p.block]? = none := by simp; omega
    simp [World.cell?, hn] at h

section
variable {w w' : World} {K K' : Nat → Prop} {A : Option Addr} {n c : Nat} {l : List Int} {ls : List (List Int)} {bs : List Bool} {xs : List Value}

theorem Sl.old (h : Sl w K A xs) (ho : Old K w w') : Sl w' K A xs := fun j u hu => by
  obtain ⟨ad, e, hk, hc⟩ := h j u hu
  have hlt : ad.block < w.heap.size := by have := lt_of_cell hc; rwa [block_of_add] at this
  exact ⟨ad, e, hk, (World.cell?_of_block (w := w) (w' := w') (a := ad.add j) (by rw [block_of_add]; exact ho _ hk hlt)).trans hc⟩
theorem Sl.weak (h : Sl w K A xs) (hK : ∀ k, k < w.heap.size → K k → K' k) : Sl w K' A xs := fun j u hu => by
  obtain ⟨ad, e, hk, hc⟩ := h j u hu
  have hlt : ad.block < w.heap.size := by have := lt_of_cell hc; rwa [block_of_add] at this
  exact ⟨ad, e, hK _ hlt hk, hc⟩
theorem R1.old (h : R1 w K A n c l) (ho : Old K w w') : R1 w' K A n c l := ⟨h.len, h.cap, h.big, h.top, h.wf, h.sl.old ho⟩
theorem R1.below (h : R1 w K A n c l) (hb : Below w.heap.size w w') : R1 w' K A n c l := h.old (Old.of_below hb)
theorem R1.weak (h : R1 w K A n c l) (hK : ∀ k, k < w.heap.size → K k → K' k) : R1 w K' A n c l := ⟨h.len, h.cap, h.big, h.top, h.wf, h.sl.weak hK⟩
theorem In1.old {u : Value} (h : In1 w K u l) (ho : Old K w w') : In1 w' K u l := by
  obtain ⟨A, n, c, e, h⟩ := h
  exact ⟨A, n, c, e, h.old ho⟩
theorem In1.weak {u : Value} (h : In1 w K u l) (hK : ∀ k, k < w.heap.size → K k → K' k) : In1 w K' u l := by
  obtain ⟨A, n, c, e, h⟩ := h
  exact ⟨A, n, c, e, h.weak hK⟩
theorem All1.old (h : All1 w K xs ls) (ho : Old K w w') : All1 w' K xs ls := ⟨h.1, fun j u l hu hl => (h.2 j u l hu hl).old ho⟩
theorem All1.weak (h : All1 w K xs ls) (hK : ∀ k, k < w.heap.size → K k → K' k) : All1 w K' xs ls := ⟨h.1, fun j u l hu hl => (h.2 j u l hu hl).weak hK⟩
theorem R2.old (h : R2 w K A n c ls) (ho : Old K w w') : R2 w' K A n c ls := by
  obtain ⟨us, h1, h2⟩ := h.ex
  exact ⟨h.len, h.cap, h.big, h.top, us, h1.old ho, h2.old ho⟩
theorem R2.below (h : R2 w K A n c ls) (hb : Below w.heap.size w w') : R2 w' K A n c ls := h.old (Old.of_below hb)
theorem R2.weak (h : R2 w K A n c ls) (hK : ∀ k, k < w.heap.size → K k → K' k) : R2 w K' A n c ls := by
  obtain ⟨us, h1, h2⟩ := h.ex
  exact ⟨h.len, h.cap, h.big, h.top, us, h1.weak hK, h2.weak hK⟩
theorem RB.old (h : RB w K A n c bs) (ho : Old K w w') : RB w' K A n c bs := ⟨h.len, h.cap, h.big, h.top, h.sl.old ho⟩
theorem RB.below (h : RB w K A n c bs) (hb : Below w.heap.size w w') : RB w' K A n c bs := h.old (Old.of_below hb)
theorem RB.weak (h : RB w K A n c bs) (hK : ∀ k, k < w.heap.size → K k → K' k) : RB w K' A n c bs := ⟨h.len, h.cap, h.big, h.top, h.sl.weak hK⟩

/-- The element at k: its cell. -/
theorem R1.at_ {k : Nat} (h : R1 w K A n c l) (hk : k < n) : ∃ ad x, A = some ad ∧ K ad.block ∧ l[k]? = some x ∧ I64 x ∧ w.cell? (ad.add k) = some (.int .i64 x) := by
  have hl : k < l.length := by have := h.len; omega
  obtain ⟨ad, e, hK, hc⟩ := h.sl k (.int .i64 l[k]) (by simp [hl])
  exact ⟨ad, l[k], e, hK, List.getElem?_eq_getElem hl, h.wf _ (List.getElem_mem hl), hc⟩
theorem RB.at_ {k : Nat} (h : RB w K A n c bs) (hk : k < n) : ∃ ad x, A = some ad ∧ K ad.block ∧ bs[k]? = some x ∧ w.cell? (ad.add k) = some (.bool x) := by
  have hl : k < bs.length := by have := h.len; omega
  obtain ⟨ad, e, hK, hc⟩ := h.sl k (.bool bs[k]) (by simp [hl])
  exact ⟨ad, bs[k], e, hK, List.getElem?_eq_getElem hl, hc⟩
theorem R2.at_ {k : Nat} (h : R2 w K A n c ls) (hk : k < n) : ∃ ad l A' n' c', A = some ad ∧ K ad.block ∧ ls[k]? = some l ∧ w.cell? (ad.add k) = some (.slice A' n' c') ∧ R1 w K A' n' c' l := by
  have hl : k < ls.length := by have := h.len; omega
  obtain ⟨us, h1, h2, h3⟩ := h.ex
  have hu : k < us.length := by omega
  obtain ⟨ad, e, hK, hc⟩ := h1 k us[k] (List.getElem?_eq_getElem hu)
  obtain ⟨A', n', c', e', h'⟩ := h3 k us[k] ls[k] (List.getElem?_eq_getElem hu) (List.getElem?_eq_getElem hl)
  exact ⟨ad, ls[k], A', n', c', e, hK, List.getElem?_eq_getElem hl, by rw [hc, e'], h'⟩
end

/-- It hands back v, and nothing that was there has turned. -/
def Gives (w : World) (v : Value) (e : Ending) (w' : World) : Prop := e = .returned v ∧ Below w.heap.size w w'

theorem Gives.same (w : World) (v : Value) : Gives w v (.returned v) w := ⟨rfl, Below.refl _ _⟩

/-- A block that is known whole. -/
def Blk (w : World) (g : Nat) (t : TypeId) (cs : Array Value) : Prop := w.heap[g]? = some (.cells cs t (0, 0))
/-- One block has turned. -/
structure Only (g : Nat) (w w' : World) : Prop where
  os : w'.os = w.os
  tape : w'.tape = w.tape
  output : w'.output = w.output
  size : w'.heap.size = w.heap.size
  block : ∀ k, k ≠ g → w'.heap[k]? = w.heap[k]?

section
variable {w w' : World} {g : Nat} {t : TypeId} {cs : Array Value}
theorem Blk.lt (h : Blk w g t cs) : g < w.heap.size := by
  rcases Nat.lt_or_ge g w.heap.size with hlt | hge
  · exact hlt
  · unfold Blk at h; rw [Array.getElem?_eq_none hge] at h; cases h
theorem Blk.cell (h : Blk w g t cs) (i : Nat) : w.cell? ⟨g, i, none⟩ = cs[i]? := cell_of_row w g i cs t (0, 0) h
theorem Blk.frozen (h : Blk w g t cs) (i : Nat) : w.frozen? ⟨g, i, none⟩ = false := by
  unfold Blk at h
  simp [World.frozen?, h]
theorem Blk.new (w : World) (t : TypeId) (cs : Array Value) : Blk (w.alloc (.cells cs t)) w.heap.size t cs := heap_alloc_new w _
theorem Blk.alloc (h : Blk w g t cs) (o : Obj) : Blk (w.alloc o) g t cs := (Below.heap_alloc w o g h.lt).trans h
theorem Blk.set_ (h : Blk w g t cs) (i : Nat) (u : Value) : Blk (w.setCell ⟨g, i, none⟩ u) g t (cs.setIfInBounds i u) := by
  unfold Blk at h ⊢
  simp [World.setCell, Array.getElem?_modify, h]
theorem Blk.far (h : Blk w g t cs) {p : Addr} (hp : g ≠ p.block) (u : Value) : Blk (w.setCell p u) g t cs := (Below.heap_setCell w p u g hp).trans h
theorem Blk.old (h : Blk w g t cs) (hb : Below w.heap.size w w') : Blk w' g t cs := (hb.block g h.lt).trans h
theorem Blk.below {B : Nat} (h : Blk w g t cs) (hb : Below B w w') (hg : g < B) : Blk w' g t cs := (hb.block g hg).trans h
theorem Blk.only {g' : Nat} (h : Blk w g t cs) (hb : Only g' w w') (hg : g ≠ g') : Blk w' g t cs := (hb.block g hg).trans h
theorem Blk.setRow (h : Blk w g t cs) (cs' : Array Value) : Blk (w.setRow g cs') g t cs' := setRow_heap w g cs cs' t (0, 0) h
theorem Only.setCell (w : World) (g i : Nat) (u : Value) : Only g w (w.setCell ⟨g, i, none⟩ u) :=
  ⟨rfl, rfl, rfl, by simp [World.setCell], fun k hk => Below.heap_setCell w ⟨g, i, none⟩ u k hk⟩
theorem below_only {B : Nat} {a : World} (h : Below B a w) (ho : Only g w w') (hg : B ≤ g) : Below B a w' :=
  h.trans ⟨ho.os, ho.tape, ho.output, by rw [ho.size]; exact Nat.le_refl _, fun k hk => ho.block k (by omega)⟩
theorem below_setRow {B : Nat} {a : World} (h : Below B a w) {g : Nat} (hg : B ≤ g) (cs : Array Value) : Below B a (w.setRow g cs) :=
  h.trans ⟨rfl, rfl, rfl, by simp, fun k hk => setRow_other w g k cs (by omega)⟩
end

theorem ret_bool {a b : Bool} (h : a = b) : Ending.returned (.bool a) = .returned (.bool b) := by rw [h]
theorem take_snoc_of {α : Type} {l : List α} {k : Nat} {x : α} (h : l[k]? = some x) : l.take (k + 1) = l.take k ++ [x] := by
  rw [List.take_add_one, h]; rfl
theorem drop_cons_of {α : Type} {l : List α} {k : Nat} {x : α} (h : l[k]? = some x) : l.drop k = x :: l.drop (k + 1) := by
  obtain ⟨hk, rfl⟩ := List.getElem?_eq_some_iff.1 h
  exact List.drop_eq_getElem_cons hk

/-- a partial assignment's cells -/
def pv (a : List Int) : Array Value := (a.map (Value.int .i64)).toArray
end Go.Proofs.YtjgkdfghjeodeaaGreatDoor
