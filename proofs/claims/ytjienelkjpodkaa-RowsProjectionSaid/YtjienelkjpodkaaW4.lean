/- Walks: unit, Unit, Clone of integers, Holds, Valid. -/
import Derived.Test.YtjienelkjpodkaaW3
namespace Go.Proofs.Ytjienelkjpodkaa
open Go.RowKit

theorem info3 : (Try.prog.info? 3).map (fun i => (i.zero, i.size, i.bytes)) = some (some (.int .i64 0), 1, 8) := by kernel_rfl
theorem size37 : (Try.prog.info? 37).map (·.size) = some 2 := by kernel_rfl

def RowPost (w : World) (r : Row) (e : Ending) (w' : World) : Prop := ∃ u v, e = .returned (.agg #[u, v]) ∧ RowIn w' (fun k => w.heap.size ≤ k) u v r ∧ Below w.heap.size w w'

theorem unit_row (n i : Nat) (a : Int) : (List.replicate n (Value.int .i64 0)).toArray.setIfInBounds i (.int .i64 a) = (((List.replicate n (0 : Int)).set i a).map (Value.int .i64)).toArray := by
  rw [List.setIfInBounds_toArray, List.map_set, List.map_replicate]
theorem set_i64 {l : List Int} {i : Nat} {a : Int} (h : ∀ x ∈ l, I64 x) (ha : I64 a) : ∀ x ∈ l.set i a, I64 x := fun x hx => by
  rcases List.mem_or_eq_of_mem_set hx with h1 | h1
  · exact h x h1
  · rw [h1]; exact ha
theorem rep_i64 (n : Nat) : ∀ x ∈ List.replicate n (0 : Int), I64 x := fun x hx => by
  have := (List.mem_replicate.1 hx).2
  rw [this]; unfold I64; omega
/-- a block that is known whole, as a slice of integers -/
theorem Blk.r1 {w : World} {g n : Nat} {l : List Int} (h : Blk w g 3 (l.map (Value.int .i64)).toArray) {K : Nat → Prop} (hK : K g) (hl : l.length = n) (hn : n ≤ 140737488355328) (hw : ∀ x ∈ l, I64 x) : R1 w K (some ⟨g, 0, none⟩) n n l :=
  ⟨hl, Nat.le_refl _, hn, by omega, hw, fun j u hu => ⟨⟨g, 0, none⟩, rfl, hK, by
    have e : (⟨g, 0, none⟩ : Addr).add j = ⟨g, j, none⟩ := by
      unfold Addr.add
      by_cases hj : j = 0
      · simp [hj]
      · simp [hj]
    rw [e, h.cell]
    simpa using hu⟩⟩

/-- 'unit'. -/
theorem unit_c (n i : Nat) (a c : Int) (w : World) (hn : n ≤ 12) (hi : i < n) (ha : I64 a) (hc : I64 c) :
    Calls Try.prog 29 #[.int .i64 n, .int .i64 i, .int .i64 a, .int .i64 c] w (RowPost w (unitR n i a c)) := by
  have HU := Lib.hid (unit_row n i a)
  go_enter Try.func29, Try.ntmps29
  go_wp2_with (first | (refine wpList_makeFull rfl (.tmp 10) (.tmp 10) 22 rfl (.int .i64 0) Try.underlying22 info3 rfl n rfl rfl (by omega) (by omega) ?_; intro w5 hk hb hs; have HK5 := Lib.hid (show Blk w5 (w.heap.size + 1) 3 (List.replicate n (Value.int .i64 0)).toArray by simpa using hk); have HR5 := Lib.hid ((Blk.new w 37 #[.slice none 0 0, .int .i64 0]).old hb); have HB5 := Lib.hid (show Below w.heap.size w w5 from ((Below.refl w.heap.size w).alloc (Nat.le_refl _) _).trans (hb.mono (by simp))); have HS5 := Lib.hid (show w5.heap.size = w.heap.size + 2 by simpa using hs); clear hk hb hs) | (refine wpList_store_at rfl 3 (.tmp 18) (.tmp 17) rfl rfl (w.heap.size + 1) i (.int .i64 a) _ 3 rfl rfl (HK5.out.alloc _) (by simpa using hi) (by kernel_rfl) rfl ?_; intro w6 hb6 ho6; have HK6 := Lib.hid hb6; have HB6 := Lib.hid (below_only (HB5.out.alloc HB5.out.size (.cells #[.slice (some ⟨w.heap.size + 1, 0, none⟩) n n, .int .i64 c] 37)) ho6 (Nat.le_succ _)); have hk7 := (Blk.new w5 37 #[.slice (some ⟨w.heap.size + 1, 0, none⟩) n n, .int .i64 c]).only ho6 (by have := HS5.out; omega); have hc0 := hk7.cell 0; have hc1 := hk7.cell 1; have HR6 := Lib.hid ((HR5.out.alloc (.cells #[.slice (some ⟨w.heap.size + 1, 0, none⟩) n n, .int .i64 c] 37)).only ho6 (by omega)); clear hb6 ho6 hk7) | (refine wpList_store_blk rfl 37 (.tmp 8) (.tmp 19) rfl rfl w.heap.size #[.slice (some ⟨w.heap.size + 1, 0, none⟩) n n, .int .i64 c] _ 37 rfl rfl HR6.out size37 rfl (by simp [Value.oneCell']) ?_; intro w7 hk ho; have HK7 := Lib.hid (HK6.out.only ho (by omega)); have HB7 := Lib.hid (below_only HB6.out ho (Nat.le_refl _)); have HR7 := Lib.hid hk; have hd0 := hk.cell 0; have hd1 := hk.cell 1; clear hk ho))
  refine bodyPost_ret (results_cell rfl _ _ w.heap.size rfl 37 _ HR7.out Try.underlying37 rfl size37) rfl ?_
  have hk := HK7.out
  rw [HU.out] at hk
  exact ⟨_, _, rfl, ⟨_, _, _, rfl, rfl, hk.r1 (Nat.le_succ _) (by simp) (by omega) (set_i64 (rep_i64 n) ha), hc⟩, HB7.out⟩

end Go.Proofs.Ytjienelkjpodkaa
