/- Walks of the program's partial assignments: set, value, begin. -/
import Derived.Test.YtekbkdbmkjdgbaaW1
import Derived.Test.YtekbkdbmkjdgbaaL1
namespace Go.Proofs.Ytekbkdbmkjdgbaa
open Go.RowKit

def SetPost (g : Nat) (a' : List Int) (w : World) (e : Ending) (w' : World) : Prop := e = .returned (.tuple #[]) ∧ Blk w' g 55 (pv a') ∧ Only g w w'

/-- '(*partial).set'. -/
theorem set_c (g : Nat) (a : List Int) (l : Int) (w : World) (h : Blk w g 55 (pv a)) (ha : Wf a) (h1 : l ≤ 16) (h2 : -16 ≤ l) :
    Calls Try.prog 66 #[.pointer (some ⟨g, 0, none⟩), .int .i64 l] w (SetPost g (setL a l) w) := by
  have hlen := ha.1
  by_cases h0 : l < 0
  · have c1 : w.cell? ⟨g, (-l).toNat, none⟩ = some (.int .i64 (a.getD (-l).toNat 0)) := by rw [h.cell, pv_get (by omega)]
    have c2 := h.frozen (-l).toNat
    have HB := Lib.hid h
    have HA := Lib.hid (show setL a l = a.set (-l).toNat (-1) by rw [setL, if_pos h0])
    clear h ha hlen
    generalize a.getD (-l).toNat 0 = x at *
    go_enter Try.func66, Try.ntmps66
    go_wp2
    go_end0
    exact ⟨rfl, by rw [HA.out, ← pv_set]; exact HB.out.set_ _ _, Only.setCell _ _ _ _⟩
  · have c1 : w.cell? ⟨g, l.toNat, none⟩ = some (.int .i64 (a.getD l.toNat 0)) := by rw [h.cell, pv_get (by omega)]
    have c2 := h.frozen l.toNat
    have HB := Lib.hid h
    have HA := Lib.hid (show setL a l = a.set l.toNat 1 by rw [setL, if_neg h0])
    clear h ha hlen
    generalize a.getD l.toNat 0 = x at *
    go_enter Try.func66, Try.ntmps66
    go_wp2
    go_end0
    exact ⟨rfl, by rw [HA.out, ← pv_set]; exact HB.out.set_ _ _, Only.setCell _ _ _ _⟩

/-- The closure 'value' of propagate. -/
theorem value_c (g : Nat) (a : List Int) (l : Int) (w : World) (h : Blk w g 55 (pv a)) (ha : Wf a) (h1 : l ≤ 16) (h2 : -16 ≤ l) :
    Calls Try.prog 67 #[.int .i64 l, .pointer (some ⟨g, 0, none⟩)] w fun e w' => e = .returned (.int .i64 (val a l)) ∧ w = w' := by
  have hlen := ha.1
  by_cases h0 : l < 0
  · have c1 : w.cell? ⟨g, (-l).toNat, none⟩ = some (.int .i64 (a.getD (-l).toNat 0)) := by rw [h.cell, pv_get (by omega)]
    obtain ⟨b1, b2⟩ := ha.getD (-l).toNat
    have HA := Lib.hid (show val a l = -a.getD (-l).toNat 0 by rw [val, if_pos h0])
    clear h ha hlen
    generalize a.getD (-l).toNat 0 = x at *
    go_enter Try.func67, Try.ntmps67
    go_wp2
    go_ret
    exact ⟨by rw [HA.out] <;> rfl, rfl⟩
  · have c1 : w.cell? ⟨g, l.toNat, none⟩ = some (.int .i64 (a.getD l.toNat 0)) := by rw [h.cell, pv_get (by omega)]
    obtain ⟨b1, b2⟩ := ha.getD l.toNat
    have HA := Lib.hid (show val a l = a.getD l.toNat 0 by rw [val, if_neg h0])
    clear h ha hlen
    generalize a.getD l.toNat 0 = x at *
    go_enter Try.func67, Try.ntmps67
    go_wp2
    go_ret
    exact ⟨by rw [HA.out] <;> rfl, rfl⟩

def PartPost (r : Option (List Int)) (w : World) (e : Ending) (w' : World) : Prop := e = .returned (.tuple #[.agg (pv (r.getD zeros)), .bool r.isSome]) ∧ Below w.heap.size w w'

theorem all_mem {p : Int → Bool} {l : List Int} (h : l.all p = true) {k : Nat} {x : Int} (hx : l[k]? = some x) : p x = true := List.all_eq_true.1 h x (List.mem_of_getElem? hx)

theorem zagg : #[Value.int IntKind.i64 0, Value.int IntKind.i64 0, Value.int IntKind.i64 0, Value.int IntKind.i64 0, Value.int IntKind.i64 0, Value.int IntKind.i64 0, Value.int IntKind.i64 0, Value.int IntKind.i64 0, Value.int IntKind.i64 0, Value.int IntKind.i64 0, Value.int IntKind.i64 0, Value.int IntKind.i64 0, Value.int IntKind.i64 0, Value.int IntKind.i64 0, Value.int IntKind.i64 0, Value.int IntKind.i64 0, Value.int IntKind.i64 0] = pv zeros := rfl

structure BegRel (w wr : World) (a : List Int) : Prop where
  below : Below w.heap.size w wr
  size : wr.heap.size = w.heap.size + 2
  out : Blk wr w.heap.size 55 (pv zeros)
  cur : Blk wr (w.heap.size + 1) 55 (pv a)
  wf : Wf a

theorem BegRel.start (w : World) : BegRel w ((w.alloc (.cells (pv zeros) 55)).alloc (.cells (pv zeros) 55)) zeros :=
  ⟨((Below.refl _ _).alloc (Nat.le_refl _) _).alloc (by simp) _, by simp, (Blk.new w 55 _).alloc _, by have := Blk.new (w.alloc (.cells (pv zeros) 55)) 55 (pv zeros); simpa using this, Wf.zeros⟩


/-- 'begin'. -/
theorem begin_c (K : Nat → Prop) (A : Option Addr) (n c : Nat) (l : List Int) (w : World) (h : R1 w K A n c l) (hv : l.all (wi 16) = true) :
    Calls Try.prog 49 #[.slice A n c] w (PartPost (beginF l l zeros) w) := by
  have hbig := h.big
  have hcap := h.cap
  have HV := Lib.hid hv
  clear hv
  go_enter Try.func49, Try.ntmps49
  go_wp2
  rw [zagg]
  go_loopw [9] (fun i wr => ∃ (k : Nat) (a : List Int), k ≤ n ∧ i = .int .i64 k ∧ BegRel w wr a ∧ beginF l (l.drop k) a = beginF l l zeros) (fun i _ => n - (intOf i).toNat)
  case atStart => exact ⟨0, zeros, Nat.zero_le _, rfl, BegRel.start w, rfl⟩
  case round =>
    obtain ⟨k, a, hk, rfl, hR, hnt⟩ := hrel
    have H := Lib.hid hnt
    have HR := Lib.hid hR
    clear hnt hR
    by_cases hlt : k < n
    · have h' := h.below HR.out.below
      obtain ⟨ad, x, rfl, _, hx, hw, hcell⟩ := h'.at_ hlt
      obtain ⟨hw1, hw2⟩ := hw
      obtain ⟨v0, v1, v2⟩ := wi_facts (all_mem HV.out hx)
      have Hx := Lib.hid hx
      have HC := Lib.hid (contains_c K (some ad) n c l (-x) _ h')
      have HS := Lib.hid (set_c (w.heap.size + 1) a x _ HR.out.cur HR.out.wf v1 v2)
      have Ho := Lib.hid HR.out.out
      clear hx h h'
      cases hcon : hasB l (-x)
      · have HCon := Lib.hid hcon
        go_wp2_with (first | (go_at_call 65; refine HC.out.mono ?_; rintro e w' ⟨rfl, rfl⟩) | (go_at_call 66; refine HS.out.mono ?_; rintro e w' ⟨rfl, hb, ho⟩; have HB := Lib.hid hb; have HO := Lib.hid ho; clear hb ho))
        go_roundw
        case rel =>
          refine ⟨k + 1, setL a x, by omega, by go_num, ⟨below_only HR.out.below HO.out (by omega), by rw [HO.out.size]; exact HR.out.size, Ho.out.only HO.out (by omega), HB.out, HR.out.wf.setL x⟩, ?_⟩
          rw [← H.out, drop_cons_of Hx.out, beginF, HCon.out]
          rfl
        case measure => simp [intOf]; omega
      · have HCon := Lib.hid hcon
        go_wp2_with (first | (go_at_call 65; refine HC.out.mono ?_; rintro e w' ⟨rfl, rfl⟩) | (refine wpList_store_rowTo rfl 55 (.tmp 2) (.tmp 17) rfl rfl w.heap.size (pv zeros) rfl rfl 55 (pv zeros) Ho.out (size55 Wf.zeros) rfl (pv_one _) ?_))
        have hF : beginF l l zeros = none := by
          rw [← H.out, drop_cons_of Hx.out, beginF, HCon.out]
          rfl
        refine bodyPost_ret (v := .tuple #[.agg (pv zeros), .bool false]) ?_ rfl ?_
        · simp [results, Try.results49, asAddr, run_loadVar_row _ w.heap.size 55 55 (pv zeros) (0, 0) _ (Ho.out.setRow (pv zeros)) Try.underlying55 rfl (size55 Wf.zeros)]
        · refine ⟨by rw [hF]; rfl, below_setRow HR.out.below (Nat.le_refl _) _⟩
    · have hF : beginF l l zeros = some a := by
        rw [← H.out, List.drop_eq_nil_of_le (by have := h.len; omega), beginF]
      go_wp2_with (first | (refine wpList_load_row rfl 55 (.tmp 4) rfl (w.heap.size + 1) rfl 55 (pv a) (0, 0) _ HR.out.cur Try.underlying55 rfl (size55 HR.out.wf) ?_) | (refine wpList_store_rowTo rfl 55 (.tmp 2) (.tmp 21) rfl rfl w.heap.size (pv a) rfl rfl 55 (pv zeros) HR.out.out (size55 HR.out.wf) (by rw [pv_size, pv_size, HR.out.wf.1]; rfl) (pv_one _) ?_))
      refine bodyPost_ret (v := .tuple #[.agg (pv a), .bool true]) ?_ rfl ?_
      · simp [results, Try.results49, asAddr, run_loadVar_row _ w.heap.size 55 55 (pv a) (0, 0) _ (HR.out.out.setRow (pv a)) Try.underlying55 rfl (size55 HR.out.wf)]
      · refine ⟨by rw [hF]; rfl, below_setRow HR.out.below (Nat.le_refl _) _⟩

end Go.Proofs.Ytekbkdbmkjdgbaa
