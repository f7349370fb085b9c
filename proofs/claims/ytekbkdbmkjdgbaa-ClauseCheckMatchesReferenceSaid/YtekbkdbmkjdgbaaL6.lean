/- Literals in memory: what a composite literal of this seat lays, read as lists. -/
import Derived.Test.YtekbkdbmkjdgbaaL1
namespace Go.Proofs.Ytekbkdbmkjdgbaa
open Go.RowKit

def lit1W (W : World) (l : List Int) : World := W.alloc (.cells (l.map (Value.int .i64)).toArray 3)
def litBW (W : World) (l : List Bool) : World := W.alloc (.cells (l.map Value.bool).toArray 4)
def litW (W : World) : List (List Int) → World
  | [] => W
  | l :: r => litW (lit1W W l) r
def litS (b : Nat) : List (List Int) → List Value
  | [] => []
  | l :: r => .slice (some ⟨b, 0, none⟩) l.length l.length :: litS (b + 1) r
def lit2W (W : World) (ls : List (List Int)) : World := (litW W ls).alloc (.cells (litS W.heap.size ls).toArray 32)

theorem lit1_below (W : World) (l : List Int) : Below W.heap.size W (lit1W W l) := (Below.refl _ _).alloc (Nat.le_refl _) _
theorem litB_below (W : World) (l : List Bool) : Below W.heap.size W (litBW W l) := (Below.refl _ _).alloc (Nat.le_refl _) _
theorem lit1_size (W : World) (l : List Int) : (lit1W W l).heap.size = W.heap.size + 1 := by simp [lit1W]
theorem lit1_r1 (W : World) (l : List Int) (hl : l.length ≤ 1000) (hw : ∀ x ∈ l, I64 x) : R1 (lit1W W l) (fun _ => True) (some ⟨W.heap.size, 0, none⟩) l.length l.length l := by
  have h := (Own.lit (w := W) (base := W.heap.size) 3 (l.map (Value.int .i64)).toArray l.length (Nat.le_refl _) (by omega) (by simp))
  exact h.r1 (fun _ _ => trivial) (by omega) hw
theorem litB_rb (W : World) (l : List Bool) (hl : l.length ≤ 1000) : RB (litBW W l) (fun _ => True) (some ⟨W.heap.size, 0, none⟩) l.length l.length l := by
  have h := (Own.lit (w := W) (base := W.heap.size) 4 (l.map Value.bool).toArray l.length (Nat.le_refl _) (by omega) (by simp))
  exact h.rb (fun _ _ => trivial) (by omega)
theorem litW_below : ∀ (W : World) (ls : List (List Int)), Below W.heap.size W (litW W ls)
  | _, [] => Below.refl _ _
  | W, l :: r => (lit1_below W l).trans ((litW_below (lit1W W l) r).mono (lit1_below W l).size)
theorem litW_size : ∀ (W : World) (ls : List (List Int)), (litW W ls).heap.size = W.heap.size + ls.length
  | W, [] => rfl
  | W, l :: r => by rw [litW, litW_size, lit1_size, List.length_cons]; omega
theorem litS_len : ∀ (b : Nat) (ls : List (List Int)), (litS b ls).length = ls.length
  | _, [] => rfl
  | b, l :: r => by rw [litS, List.length_cons, List.length_cons, litS_len]
theorem litW_all : ∀ (W : World) (ls : List (List Int)), (∀ l ∈ ls, l.length ≤ 1000 ∧ ∀ x ∈ l, I64 x) → All1 (litW W ls) (fun _ => True) (litS W.heap.size ls) ls
  | W, [], _ => All1.nil_ _ _
  | W, l :: r, h => by
    obtain ⟨h1, h2⟩ := h l List.mem_cons_self
    have ih := litW_all (lit1W W l) r fun x hx => h x (List.mem_cons_of_mem _ hx)
    rw [lit1_size] at ih
    refine ⟨by rw [litS, List.length_cons, List.length_cons, litS_len], fun j u m hu hm => ?_⟩
    cases j with
    | zero =>
      simp [litS] at hu hm
      subst hu hm
      exact ⟨_, _, _, rfl, (lit1_r1 W l h1 h2).below (litW_below _ _)⟩
    | succ j => exact ih.2 j u m (by simpa [litS] using hu) (by simpa using hm)
theorem lit2_below (W : World) (ls : List (List Int)) : Below W.heap.size W (lit2W W ls) := (litW_below W ls).alloc (litW_below W ls).size _
theorem lit2_r2 (W : World) (ls : List (List Int)) (hl : ls.length ≤ 1000) (h : ∀ l ∈ ls, l.length ≤ 1000 ∧ ∀ x ∈ l, I64 x) : R2 (lit2W W ls) (fun _ => True) (some ⟨W.heap.size + ls.length, 0, none⟩) ls.length ls.length ls := by
  have ha := litW_all W ls h
  have hb : Below (litW W ls).heap.size (litW W ls) (lit2W W ls) := (Below.refl _ _).alloc (Nat.le_refl _) _
  have ho := (Own.lit (w := litW W ls) (base := 0) 32 (litS W.heap.size ls).toArray ls.length (Nat.zero_le _) (by omega) (by simp [litS_len]))
  rw [litW_size] at ho
  exact ho.r2 (fun _ _ => trivial) (by omega) (ha.old (Old.of_below hb))

theorem lit2_size (W : World) (ls : List (List Int)) : (lit2W W ls).heap.size = W.heap.size + (ls.length + 1) := by
  simp [lit2W, litW_size]; omega

/-- .. the same, the heap's size a letter -/
def lit2V (W : World) (b : Nat) (ls : List (List Int)) : World := (litW W ls).alloc (.cells (litS b ls).toArray 32)
theorem lit2V_eq {W : World} {b : Nat} (h : W.heap.size = b) (ls : List (List Int)) : lit2V W b ls = lit2W W ls := by subst h; rfl
theorem lit2V_below {W : World} {b : Nat} (h : W.heap.size = b) (ls : List (List Int)) : Below W.heap.size W (lit2V W b ls) := by rw [lit2V_eq h]; exact lit2_below W ls
theorem lit2V_r2 {W : World} {b : Nat} (h : W.heap.size = b) (ls : List (List Int)) (hl : ls.length ≤ 1000) (hw : ∀ l ∈ ls, l.length ≤ 1000 ∧ ∀ x ∈ l, I64 x) : R2 (lit2V W b ls) (fun _ => True) (some ⟨b + ls.length, 0, none⟩) ls.length ls.length ls := by
  rw [lit2V_eq h, ← h]; exact lit2_r2 W ls hl hw

end Go.Proofs.Ytekbkdbmkjdgbaa
