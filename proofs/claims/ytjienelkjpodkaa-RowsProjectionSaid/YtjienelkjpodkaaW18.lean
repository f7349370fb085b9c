/- Plain facts of tree. -/
import Derived.Test.YtjienelkjpodkaaL12
namespace Go.Proofs.Ytjienelkjpodkaa
open Go.RowKit

/-- what a step of its kind may hold -/
def plainS (s : Step) : Step :=
  if s.kind = 1 then { kind := s.kind, m := s.m, next := s.next }
  else if s.kind = 2 then { kind := s.kind, r := s.r, d := s.d, next := s.next }
  else if s.kind = 3 then { kind := s.kind, x := s.x, k := s.k, next := s.next, els := s.els }
  else { kind := s.kind }
theorem stepOk_false {s : Step} (h1 : s.kind ≠ 1) (h2 : s.kind ≠ 2) (h3 : s.kind ≠ 3) (h4 : s.kind ≠ 4) : stepOk s = false := by
  unfold stepOk
  rw [if_neg h1, if_neg h2, if_neg h3, if_neg h4]
theorem stepOk_iff {s : Step} (h : s.kind = 1 ∨ s.kind = 2 ∨ s.kind = 3 ∨ s.kind = 4) : stepOk s = true ↔
    (plainS s).m.length = s.m.length ∧ (plainS s).r = s.r ∧ (plainS s).d = s.d ∧ (plainS s).x = s.x ∧ (plainS s).k = s.k ∧ (plainS s).els = s.els ∧ (plainS s).next = s.next := by
  unfold stepOk plainS
  rcases h with h | h | h | h
  · rw [if_pos h, if_pos h]; simp; omega
  · have h1 : ¬ s.kind = 1 := by omega
    rw [if_neg h1, if_pos h, if_neg h1, if_pos h]
    cases hm : s.m with
    | nil => simp; omega
    | cons a l => simp
  · have h1 : ¬ s.kind = 1 := by omega
    have h2 : ¬ s.kind = 2 := by omega
    rw [if_neg h1, if_neg h2, if_pos h, if_neg h1, if_neg h2, if_pos h]
    cases hm : s.m with
    | nil => simp; omega
    | cons a l => simp
  · have h1 : ¬ s.kind = 1 := by omega
    have h2 : ¬ s.kind = 2 := by omega
    have h3 : ¬ s.kind = 3 := by omega
    rw [if_neg h1, if_neg h2, if_neg h3, if_pos h, if_neg h1, if_neg h2, if_neg h3]
    cases hm : s.m with
    | nil => simp; omega
    | cons a l => simp
theorem tree_bad {n : Nat} {s : Step} {p : List Step} {k : Nat} {par : List Int} (h : stepOk s = false) : treeFrom n (s :: p) k par = false := by
  rw [treeFrom, h]; rfl
theorem tree_close {n : Nat} {s : Step} {p : List Step} {k : Nat} {par : List Int} (h : stepOk s = true) (h4 : s.kind = 4) : treeFrom n (s :: p) k par = treeFrom n p (k + 1) par := by
  rw [treeFrom, h, if_pos h4]; rfl
theorem tree_none {n : Nat} {s : Step} {p : List Step} {k : Nat} {par : List Int} (h4 : s.kind ≠ 4) (hc : childF n k s.next par = none) : treeFrom n (s :: p) k par = false := by
  rw [treeFrom, if_neg h4, hc]; simp
theorem tree_one {n : Nat} {s : Step} {p : List Step} {k : Nat} {par par1 : List Int} (h : stepOk s = true) (h4 : s.kind ≠ 4) (h3 : s.kind ≠ 3) (hc : childF n k s.next par = some par1) : treeFrom n (s :: p) k par = treeFrom n p (k + 1) par1 := by
  rw [treeFrom, h, if_neg h4, hc]; simp [h3]
theorem tree_two_none {n : Nat} {s : Step} {p : List Step} {k : Nat} {par par1 : List Int} (h3 : s.kind = 3) (hc : childF n k s.next par = some par1) (hc2 : childF n k s.els par1 = none) : treeFrom n (s :: p) k par = false := by
  rw [treeFrom, if_neg (by omega), hc]; simp [h3, hc2]
theorem tree_two {n : Nat} {s : Step} {p : List Step} {k : Nat} {par par1 par2 : List Int} (h : stepOk s = true) (h3 : s.kind = 3) (hc : childF n k s.next par = some par1) (hc2 : childF n k s.els par1 = some par2) : treeFrom n (s :: p) k par = treeFrom n p (k + 1) par2 := by
  rw [treeFrom, h, if_neg (by omega), hc]; simp [h3, hc2]
theorem child_bits {n k : Nat} {x : Int} {par par1 : List Int} (h : childF n k x par = some par1) (hp : eachB par 0 1 = true) : eachB par1 0 1 = true ∧ par1.length = par.length := by
  unfold childF at h
  split at h
  · cases h
  · split at h
    · cases h
      exact ⟨eachB_set hp (by omega) (by omega), by simp⟩
    · cases h
theorem blk_ne {w : World} {g g' : Nat} {t t' : TypeId} {cs cs' : Array Value} (h : Blk w g t cs) (h' : Blk w g' t' cs') (hne : t ≠ t') : g ≠ g' := fun e => by
  subst e
  unfold Blk at h h'
  rw [h] at h'
  injection h' with h'
  injection h' with _ ht
  exact hne ht
theorem wpList_load_list {P : Program} {w : World} {ops : Array Oper} {rest : List Oper} {o : Oper} {a : Act} {Q : Exit → Act → World → Prop} (hgd : o.guard = none) (ty : TypeId) (x : Operand) (ho : o.op = .load ty x) (p : Addr) (hx : a.eval x = .pointer (some p)) (cs : List Value)
    (hc : ∀ j v, cs[j]? = some v → w.cell? (p.add j) = some v) {d : TypeDesc} (hu : P.underlying ty = some d) (hd : d.isRow = true) (hi : (P.info? ty).map (·.size) = some cs.length) (h : wpList P ops Q rest (a.put o.dst (.agg cs.toArray)) w) : wpList P ops Q (o :: rest) a w := by
  refine wpList_plain hgd fun _ hK => ?_
  have hl : (loadCells p cs.length).run P w = .ok cs.toArray w := run_loadCells_list (P := P) w p cs hc
  have hv : (loadVar ty p).run P w = .ok (.agg cs.toArray) w := by
    cases hq : P.info? ty with
    | none => simp [hq] at hi
    | some i =>
      have hs : i.size = cs.length := by simpa [hq] using hi
      have hagg : (isAgg ty).run P w = .ok true w := by
        unfold isAgg
        rw [Sem.run_bind, run_underlying hu w]
        cases d <;> simp_all
      simp [loadVar, Sem.run_bind, hagg, sizeOf, typeInfo, hq, hs, hl]
  unfold Oper.wp execOp
  simp only [ho, hx, Instr.loadAt, Instr.sureAddr, Sem.run_bind, Sem.run_pure, Result.andThen_ok, hv]
  exact hK _ _ h
/-- the cells of a step -/
theorem RP.step_ {w : World} {K : Nat → Prop} {A : Option Addr} {n c : Nat} {p : List Step} {k : Nat} (h : RP w K A n c p) (hk : k < n) : ∃ ad s mA mn mc, A = some ad ∧ p[k]? = some s ∧ StepWf s ∧ R1 w K mA mn mc s.m ∧ mn = s.m.length ∧
    ∀ j v, (stepCells s.kind (.slice mA mn mc) s.r s.d s.x s.k s.next s.els)[j]? = some v → w.cell? ((ad.add (k * 8)).add j) = some v := by
  obtain ⟨ad, s, mA, mn, mc, h1, _, h2, h3, h4, c0, c1, c2, c3, c4, c5, c6, c7⟩ := h.at_ hk
  refine ⟨ad, s, mA, mn, mc, h1, h2, h3, h4, h4.len.symm, fun j v hv => ?_⟩
  rw [add_of_add]
  have hj : j < 8 := by
    have := (List.getElem?_eq_some_iff.1 hv).1
    simpa [stepCells] using this
  have hj' : j = 0 ∨ j = 1 ∨ j = 2 ∨ j = 3 ∨ j = 4 ∨ j = 5 ∨ j = 6 ∨ j = 7 := by omega
  rcases hj' with rfl | rfl | rfl | rfl | rfl | rfl | rfl | rfl <;> (cases hv; assumption)
end Go.Proofs.Ytjienelkjpodkaa
namespace Go.Proofs.Ytjienelkjpodkaa
open Go.RowKit

def ChildPost (q n k : Nat) (x : Int) (par : List Int) (w : World) (e : Ending) (w' : World) : Prop :=
  e = .returned (.bool (childF n k x par).isSome) ∧ ∃ par', Blk w' q 3 (pv par') ∧ Only q w w' ∧ ∀ p1, childF n k x par = some p1 → par' = p1

theorem child_c (q g1 g3 n k c : Nat) (A : Option Addr) (x : Int) (par : List Int) (w : World) (h1 : Blk w g1 29 #[.slice A n c]) (h3 : Blk w g3 22 #[.slice (some ⟨q, 0, none⟩) n n]) (hq : Blk w q 3 (pv par)) (hl : par.length = n) (hp : eachB par 0 1 = true) (_hn : n ≤ 1000000) (hx : I64 x) (hk : k ≤ 1000000) :
    Calls Try.prog 40 #[.int .i64 k, .int .i64 x, .pointer (some ⟨g1, 0, none⟩), .pointer (some ⟨g3, 0, none⟩)] w (ChildPost q n k x par w) := by
  have c1 := h1.cell 0
  have c3 := h3.cell 0
  have HQ := Lib.hid hq
  have ne3 : ¬ g3 = q := blk_ne h3 hq (by decide)
  have HX := Lib.hid hx
  clear hx hq h1 h3
  by_cases hxk : x ≤ k
  · have d1 : decide (x ≤ (k : Int)) = true := decide_eq_true hxk
    have hc : childF n k x par = none := by unfold childF; simp [hxk]
    have Hc := Lib.hid hc
    clear hc
    go_enter Try.func40, Try.ntmps40
    go_wp2
    go_ret
    rw [ChildPost, Hc.out]
    exact ⟨rfl, par, HQ.out, Only.refl _ _, fun _ h => by cases h⟩
  · have d1 : decide (x ≤ (k : Int)) = false := decide_eq_false hxk
    by_cases hxn : (n : Int) ≤ x
    · have d2 : decide ((n : Int) ≤ x) = true := decide_eq_true hxn
      have hc : childF n k x par = none := by unfold childF; simp [hxn]
      have Hc := Lib.hid hc
      clear hc
      go_enter Try.func40, Try.ntmps40
      go_wp2
      go_ret
      rw [ChildPost, Hc.out]
      exact ⟨rfl, par, HQ.out, Only.refl _ _, fun _ h => by cases h⟩
    · have d2 : decide ((n : Int) ≤ x) = false := decide_eq_false hxn
      obtain ⟨xn, rfl⟩ := Int.eq_ofNat_of_zero_le (by omega : 0 ≤ x)
      have hxn' : xn < n := by omega
      have hxi : (xn : Int) < n := by omega
      have hb := getD_bet hp (k := xn) (by omega)
      have cq := HQ.out.cell xn
      rw [pv_get (by omega)] at cq
      have fq := HQ.out.frozen xn
      have hpar := HQ.out.set_ xn (.int .i64 (par.getD xn 0 + 1))
      rw [pv_set] at hpar
      have HP := Lib.hid hpar
      have Hcc := Lib.hid (show childF n k xn par = if par.getD xn 0 = 0 then some (par.set xn 1) else none by
        unfold childF
        rw [show (decide ((xn : Int) ≤ k) || decide ((n : Int) ≤ xn)) = false by rw [d1, d2]; rfl]
        simp)
      clear hpar hp
      generalize hv : par.getD xn 0 = v at *
      by_cases hv0 : v = 0
      · have e1 : (v + 1 == 1) = true := by simp [hv0]
        have Hv := Lib.hid hv0
        clear hv hv0
        go_enter Try.func40, Try.ntmps40
        go_wp2
        go_ret
        have h0 := Hv.out
        subst h0
        rw [ChildPost, Hcc.out]
        exact ⟨rfl, _, HP.out, Only.setCell _ _ _ _, fun _ h => by cases h; rfl⟩
      · have e1 : (v + 1 == 1) = false := by simp; omega
        have Hv := Lib.hid hv0
        clear hv hv0
        go_enter Try.func40, Try.ntmps40
        go_wp2
        go_ret
        rw [ChildPost, Hcc.out, if_neg Hv.out]
        exact ⟨rfl, _, HP.out, Only.setCell _ _ _ _, fun _ h => by cases h⟩
end Go.Proofs.Ytjienelkjpodkaa
