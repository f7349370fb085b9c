/- What a beginning is, in plain Lean: its rows, its box, the number of points. -/
import Derived.Test.YtjienelkjpodkaaL10
import Derived.Defers
import Derived.Recover
namespace Go.Proofs.Ytjienelkjpodkaa

theorem startGo_ok {s : Sys} (hs : SysOk s) : ∀ (j k : Nat) (st : Begin), j + k = s.2.length → StOk s k st → StOk s s.2.length (startF s)
  | 0, k, st, hk, h => by
    have : st = startF s := by
      have := h.rest
      rw [List.drop_eq_nil_of_le (by omega), startGo] at this
      exact this
    rw [← this]
    have e : k = s.2.length := by omega
    rw [← e]; exact h
  | j + 1, k, st, hk, h => by
    have hlt : k < s.2.length := by omega
    have hr : s.2[k]? = some s.2[k] := List.getElem?_eq_getElem hlt
    by_cases hc : 2 ≤ gcdF (s.2[k]).1 ∧ (s.2[k]).2.tmod (gcdF (s.2[k]).1) ≠ 0
    · exact startGo_ok hs j (k + 1) _ (by omega) (h.cut hs hr rfl hc)
    · exact startGo_ok hs j (k + 1) _ (by omega) (h.plain hs hr hc)
theorem startF_ok {s : Sys} (hs : SysOk s) : StOk s s.2.length (startF s) := startGo_ok hs s.2.length 0 _ (by simp) (StOk.start s)

def prodF : List Int → Nat
  | [] => 1
  | t :: r => (t + 1).toNat * prodF r
theorem prodF_pos : ∀ {l : List Int}, eachB l 0 64 = true → 1 ≤ prodF l
  | [], _ => Nat.le_refl _
  | t :: r, h => by
    unfold eachB at h
    rw [List.all_cons, Bool.and_eq_true] at h
    have hb := bet_iff.1 h.1
    have := prodF_pos (l := r) h.2
    have h2 : 1 ≤ (t + 1).toNat := by omega
    rw [prodF]
    exact Nat.le_trans (by omega) (Nat.mul_le_mul h2 this)
theorem points_prod : ∀ (l : List Int) (n : Nat), eachB l 0 64 = true → 1 ≤ n → n ≤ 16385 → pointsF l n ≤ 16384 → n * prodF l ≤ 16384
  | [], n, _, _, _, h => by
    rw [pointsF] at h
    rw [prodF]; omega
  | t :: r, n, hl, h1, h2, h => by
    unfold eachB at hl
    rw [List.all_cons, Bool.and_eq_true] at hl
    have hb := bet_iff.1 hl.1
    have hp := prodF_pos (l := r) hl.2
    rw [pointsF] at h
    rw [prodF, ← Nat.mul_assoc]
    have hm : ((n * (t + 1).toNat : Nat) : Int) = n * (t + 1) := by
      rw [Int.natCast_mul, Int.toNat_of_nonneg (by omega)]
    have hge : 1 ≤ n * (t + 1).toNat := Nat.le_trans h1 (Nat.le_mul_of_pos_right _ (by omega))
    by_cases hlt : n * (t + 1).toNat ≤ 16385
    · rw [← hm, show min ((n * (t + 1).toNat : Nat) : Int) 16385 = ((n * (t + 1).toNat : Nat) : Int) by omega] at h
      exact points_prod r _ hl.2 hge hlt h
    · rw [← hm, show min ((n * (t + 1).toNat : Nat) : Int) 16385 = ((16385 : Nat) : Int) by omega] at h
      have := points_prod r 16385 hl.2 (by omega) (by omega) h
      have : 16385 * 1 ≤ 16385 * prodF r := Nat.mul_le_mul (Nat.le_refl _) hp
      omega
theorem prod_points : ∀ (l : List Int) (n : Nat), eachB l 0 64 = true → 1 ≤ n → n * prodF l ≤ 16384 → pointsF l n = ((n * prodF l : Nat) : Int)
  | [], n, _, _, h => by rw [pointsF, prodF, Nat.mul_one]
  | t :: r, n, hl, h1, h => by
    unfold eachB at hl
    rw [List.all_cons, Bool.and_eq_true] at hl
    have hb := bet_iff.1 hl.1
    have hp := prodF_pos (l := r) hl.2
    rw [prodF, ← Nat.mul_assoc] at h ⊢
    have hm : ((n * (t + 1).toNat : Nat) : Int) = n * (t + 1) := by
      rw [Int.natCast_mul, Int.toNat_of_nonneg (by omega)]
    have hge : 1 ≤ n * (t + 1).toNat := Nat.le_trans h1 (Nat.le_mul_of_pos_right _ (by omega))
    have hle : n * (t + 1).toNat ≤ n * (t + 1).toNat * prodF r := Nat.le_mul_of_pos_right _ (by omega)
    rw [pointsF, ← hm, show min ((n * (t + 1).toNat : Nat) : Int) 16385 = ((n * (t + 1).toNat : Nat) : Int) by omega]
    exact prod_points r _ hl.2 hge h
theorem prodF_set : ∀ (l : List Int) (i : Nat), eachB l 0 64 = true → prodF (l.set i 0) ≤ prodF l
  | [], i, _ => by simp
  | t :: r, 0, h => by
    unfold eachB at h
    rw [List.all_cons, Bool.and_eq_true] at h
    have hb := bet_iff.1 h.1
    rw [List.set_cons_zero, prodF, prodF]
    exact Nat.mul_le_mul (by omega) (Nat.le_refl _)
  | t :: r, i + 1, h => by
    unfold eachB at h
    rw [List.all_cons, Bool.and_eq_true] at h
    rw [List.set_cons_succ, prodF, prodF]
    exact Nat.mul_le_mul (Nat.le_refl _) (prodF_set r i h.2)

theorem vol_zero : ∀ (top rest : List Int) (k : Nat), top.length ≤ k → vol (List.replicate k 0) (top ++ rest) top.length = prodF top
  | [], rest, k, _ => by
    cases k <;> cases rest <;> simp [vol, prodF, List.replicate_succ]
  | t :: r, rest, 0, h => by simp at h
  | t :: r, rest, k + 1, h => by
    rw [List.replicate_succ, List.cons_append, List.length_cons, vol, prodF, vol_zero r rest k (by simpa using h)]
    simp
theorem wid_zero : ∀ (top rest : List Int) (k : Nat), eachB top 0 64 = true → wid (List.replicate k 0) (top ++ rest) top.length ≤ 64 * top.length
  | [], rest, k, _ => by
    cases k <;> cases rest <;> simp [wid, List.replicate_succ]
  | t :: r, rest, 0, h => by simp [wid]
  | t :: r, rest, k + 1, h => by
    unfold eachB at h
    rw [List.all_cons, Bool.and_eq_true] at h
    have hb := bet_iff.1 h.1
    have := wid_zero r rest k h.2
    rw [List.replicate_succ, List.cons_append, List.length_cons, wid]
    omega
theorem eachB_pad {l : List Int} {lo hi : Int} (h : eachB l lo hi = true) (h1 : lo ≤ 0) (h2 : 0 ≤ hi) : eachB (pad l) lo hi = true := by
  unfold eachB pad at *
  rw [List.all_append, h, List.all_replicate]
  simp [bet, h1, h2]
theorem eachB_range {f : Nat → Int} {k : Nat} {lo hi : Int} (h : ∀ i, i < k → lo ≤ f i ∧ f i ≤ hi) : eachB ((List.range k).map f) lo hi = true := by
  unfold eachB
  rw [List.all_eq_true]
  intro x hx
  obtain ⟨i, hi, rfl⟩ := List.mem_map.1 hx
  exact bet_iff.2 (h i (List.mem_range.1 hi))
theorem boxF_ok {s : Sys} (hs : SysOk s) : BoxOk s.1.length (boxF s (startF s).n) := by
  have hst := startF_ok hs
  have hn := hst.n1
  have h1 := hs.n1
  have hr : (boxF s (startF s).n).rows = (startF s).n := rfl
  refine ⟨boxF_rows s hs _, hs.n12, ?_, eachB_pad hs.top (by omega) (by omega), ?_, ?_, by rw [hr]; omega, ?_⟩
  · unfold eachB boxF
    rw [List.all_replicate]
    decide
  · rw [hr]
    exact eachB_pad (eachB_range fun i hi => by omega) (by omega) (by omega)
  · rw [hr]
    exact eachB_pad (eachB_range fun i hi => by omega) (by omega) (by omega)
  · intro i hi
    have h2 : (List.replicate 12 (0 : Int)).getD i 0 = 0 := by
      rw [List.getD_eq_getElem?_getD, List.getElem?_replicate]
      split <;> rfl
    have h3 : (pad s.1).getD i 0 = s.1.getD i 0 := getD_app_l hi
    show (List.replicate 12 (0 : Int)).getD i 0 ≤ (pad s.1).getD i 0
    rw [h2, h3]
    exact (getD_bet hs.top hi).1
theorem boxF_wid {s : Sys} (hs : SysOk s) (v : Int) : (boxF s v).wid s.1.length < fuelF s := by
  have := wid_zero s.1 (List.replicate (12 - s.1.length) 0) 12 hs.top
  have h2 := hs.n12
  unfold fuelF
  show wid (List.replicate 12 0) (pad s.1) s.1.length < _
  unfold pad
  omega
theorem boxF_vol {s : Sys} (hs : SysOk s) (v : Int) : (boxF s v).vol s.1.length = prodF s.1 := vol_zero s.1 _ 12 hs.n12
theorem fixOk {s : Sys} (hs : SysOk s) (A : Option Addr) (c : Nat) (t2 : Value) (rA : Option Addr) (rn rc : Nat) (aA : Option Addr) (an ac : Nat) : FixOk ⟨A, s.1.length, c, t2, rA, rn, rc, aA, an, ac, s.1, (startF s).rows, (startF s).at'⟩ := by
  have hst := startF_ok hs
  refine ⟨hs.n12, hst.al.symm, fun r hr => ?_⟩
  obtain ⟨h1, h2, h3, h4⟩ := hst.rows r hr
  exact ⟨by rw [h1]; exact hs.n12, h2, h3, h4⟩
theorem at_ok {s : Sys} (hs : SysOk s) : eachB (startF s).at' 0 ((boxF s (startF s).n).rows - 1) = true := (startF_ok hs).at'
theorem start_nums {s : Sys} (hs : SysOk s) : (startF s).p.length ≤ 24 ∧ (startF s).n ≤ 100 ∧ 0 ≤ (startF s).n ∧ (boxF s (startF s).n).wid s.1.length ≤ 780 := by
  have hst := startF_ok hs
  have h1 := hst.pl
  have h2 := hs.m24
  have h3 := hst.n2
  have h4 := hs.n12
  have h5 := hst.n1
  have := boxF_wid hs (startF s).n
  unfold fuelF at this
  omega
end Go.Proofs.Ytjienelkjpodkaa
namespace Go.Proofs.Ytjienelkjpodkaa
open Go.RowKit

abbrev sol (A : Option Addr) (n c : Nat) : Value := .iface 53 (.agg #[.slice A n c])
theorem assert_sol (A : Option Addr) (n c : Nat) (w : World) : (Instr.typeAssert (sol A n c) 20 53 true).run Try.prog w = .ok (.tuple #[.agg #[.slice A n c], .bool true]) w := by kernel_rfl
theorem assert_nil (w : World) : (Instr.typeAssert .nilIface 20 53 true).run Try.prog w = .ok (.tuple #[.agg #[.slice none 0 0], .bool false]) w := by kernel_rfl

theorem catch46_panicking (p : Addr) (b : Bool) (A : Option Addr) (n c : Nat) (older : List PanicEntry) (w : World) (hc : w.cell? p = some (.bool b)) (hz : w.frozen? p = false) :
    CallsD Try.prog 46 #[.pointer (some p)] (.panicking ({ v := sol A n c, recovered := false } :: older)) w fun e u' w' =>
      e = .returned (.tuple #[]) ∧ u' = .panicking ({ v := sol A n c, recovered := true } :: older) ∧ w' = w.setCell p (.bool true) := by
  refine callsD_of_wpS Try.func46 rfl fun c₀ cs hu => ?_
  apply wpS_region
  have ht := assert_sol A n c w
  simp [wpOpsS, go_sem, recoverD, hu, Try.ntmps46, ht, hc, hz, bodyPostS, results, Try.results46]
theorem catch46_idle (p : Addr) (b : Bool) (w : World) (hc : w.cell? p = some (.bool b)) (hz : w.frozen? p = false) :
    CallsD Try.prog 46 #[.pointer (some p)] .returning w fun e u' w' => e = .returned (.tuple #[]) ∧ u' = .returning ∧ w' = w.setCell p (.bool false) := by
  refine callsD_of_wpS Try.func46 rfl fun c₀ cs hu => ?_
  apply wpS_region
  have ht := assert_nil w
  simp [wpOpsS, go_sem, recoverD, hu, Try.ntmps46, ht, hc, hz, bodyPostS, results, Try.results46]
  cases c₀
  simp_all
set_option maxHeartbeats 1000000 in
theorem catch22_panicking (p q r : Addr) (b : Bool) (v1 v2 : Value) (A : Option Addr) (n c : Nat) (older : List PanicEntry) (w : World) (h1 : w.cell? p = some v1) (h2 : w.cell? q = some v2) (h3 : w.cell? r = some (.bool b)) (z1 : w.frozen? p = false) (z2 : w.frozen? q = false) (z3 : w.frozen? r = false)
    (hpq : p.block ≠ q.block) (hpr : p.block ≠ r.block) (hqr : q.block ≠ r.block) :
    CallsD Try.prog 22 #[.pointer (some p), .pointer (some q), .pointer (some r)] (.panicking ({ v := sol A n c, recovered := false } :: older)) w fun e u' w' =>
      e = .returned (.tuple #[]) ∧ u' = .panicking ({ v := sol A n c, recovered := true } :: older) ∧ w' = (((w.alloc (.cells #[.slice A n c] 53)).setCell p (.slice A n c)).setCell q (.slice none 0 0)).setCell r (.bool true) := by
  refine callsD_of_wpS Try.func22 rfl fun c₀ cs hu => ?_
  have ht := assert_sol A n c w
  have hb : Below w.heap.size w (w.alloc (.cells #[.slice A n c] 53)) := (Below.refl _ _).alloc (Nat.le_refl _) _
  have g1 := cell_below hb h1
  have g2 := cell_below hb h2
  have g3 := cell_below hb h3
  apply wpS_seq
  apply wpS_region
  simp [wpOpsS, go_sem, recoverD, hu, Try.ntmps22, Exit.thenS, ht]
  apply wpS_seq
  apply wpS_region
  simp [wpOpsS, go_sem, Exit.thenS]
  refine wpS_cond (t := true) (by simp [Act.eval, Array.replicate]) ?_
  simp only [if_true]
  apply wpS_region
  have g2' : ((w.alloc (.cells #[.slice A n c] 53)).setCell p (.slice A n c)).cell? q = some v2 := by rw [World.cell?_setCell_other _ _ _ _ (fun e => hpq (by rw [e]))]; exact g2
  have g3' : (((w.alloc (.cells #[.slice A n c] 53)).setCell p (.slice A n c)).setCell q (.slice none 0 0)).cell? r = some (.bool b) := by rw [World.cell?_setCell_other _ _ _ _ (fun e => hqr (by rw [e])), World.cell?_setCell_other _ _ _ _ (fun e => hpr (by rw [e]))]; exact g3
  simp [wpOpsS, go_sem, g1, g2', g3', z1, z2, z3, frozen?_alloc_cells, recoverD, bodyPostS, results, Try.results22]
theorem catch22_idle (p q r : Addr) (w : World) :
    CallsD Try.prog 22 #[.pointer (some p), .pointer (some q), .pointer (some r)] .returning w fun e u' w' => e = .returned (.tuple #[]) ∧ u' = .returning ∧ Below w.heap.size w w' := by
  refine callsD_of_wpS Try.func22 rfl fun c₀ cs hu => ?_
  have ht := assert_nil w
  apply wpS_seq
  apply wpS_region
  simp [wpOpsS, go_sem, recoverD, hu, Try.ntmps22, Exit.thenS, ht]
  apply wpS_seq
  apply wpS_region
  simp [wpOpsS, go_sem, Exit.thenS]
  refine wpS_cond (t := false) (by simp [Act.eval, Array.replicate]) ?_
  simp only [Bool.false_eq_true, if_false]
  refine wpS_of_wp (wp_skip ?_)
  cases c₀
  have hb : Below w.heap.size w (w.alloc (.cells #[.slice none 0 0] 53)) := (Below.refl _ _).alloc (Nat.le_refl _) _
  simp_all [bodyPostS, results, Try.results22]
end Go.Proofs.Ytjienelkjpodkaa
