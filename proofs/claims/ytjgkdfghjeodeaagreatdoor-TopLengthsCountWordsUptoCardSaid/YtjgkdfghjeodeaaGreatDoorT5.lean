/- Classes as numbers of 256 bits: their words. -/
import Derived.Test.YtjgkdfghjeodeaaGreatDoorT1
import Derived.RegionTactic
import Derived.ArgAppend
import Derived.OrdersHeld
import Derived.Deep.RegionHeld3
import Derived.Deep.RegionLaw
import Derived.StillTailTactics
import Derived.Shelf.Spec.TrailingZeros
import Derived.Laws.Bits64b
namespace Go.Proofs.YtjgkdfghjeodeaaGreatDoor
open Go.RowKit

/-- word i of a class -/
def wd (c i : Nat) : Nat := c / 2 ^ (64 * i) % 2 ^ 64
abbrev vu (n : Nat) : Value := .int .u64 (n : Int)
abbrev vi (n : Nat) : Value := .int .i64 (n : Int)
def ccells (c : Nat) : Array Value := #[vu (wd c 0), vu (wd c 1), vu (wd c 2), vu (wd c 3)]
def encC (c : Nat) : Value := .agg (ccells c)
/-- all bytes -/
def allC : Nat := 2 ^ 256 - 1
def notC (c : Nat) : Nat := allC ^^^ c
def minC (a b : Nat) : Nat := a &&& notC b

theorem wd_lt (c i : Nat) : wd c i < 18446744073709551616 := Nat.mod_lt _ (by decide)
theorem wd_bit (c i j : Nat) : (wd c i).testBit j = (decide (j < 64) && c.testBit (64 * i + j)) := by
  unfold wd
  rw [Nat.testBit_mod_two_pow, Nat.testBit_div_two_pow, Nat.add_comm j]
theorem wd_or (a b i : Nat) : wd (a ||| b) i = wd a i ||| wd b i := by
  refine Nat.eq_of_testBit_eq fun j => ?_
  simp only [wd_bit, Nat.testBit_or]
  cases decide (j < 64) <;> rfl
theorem wd_and (a b i : Nat) : wd (a &&& b) i = wd a i &&& wd b i := by
  refine Nat.eq_of_testBit_eq fun j => ?_
  simp only [wd_bit, Nat.testBit_and]
  cases decide (j < 64) <;> simp
theorem wd_not (a i : Nat) (hi : i < 4) : wd (notC a) i = 18446744073709551615 ^^^ wd a i := by
  refine Nat.eq_of_testBit_eq fun j => ?_
  have h1 : (18446744073709551615 : Nat) = 2 ^ 64 - 1 := by decide
  simp only [wd_bit, Nat.testBit_xor, notC, allC, h1, Nat.testBit_two_pow_sub_one]
  by_cases hj : j < 64
  · have : 64 * i + j < 256 := by omega
    simp [hj, this]
  · simp [hj]
theorem wd_min (a b i : Nat) (hi : i < 4) : wd (minC a b) i = wd a i &&& (18446744073709551615 ^^^ wd b i) := by
  unfold minC
  rw [wd_and, wd_not b i hi]
theorem notC_lt (a : Nat) (h : a < 2 ^ 256) : notC a < 2 ^ 256 := Nat.xor_lt_two_pow (by decide) h
theorem wd_ext {a b : Nat} (ha : a < 2 ^ 256) (hb : b < 2 ^ 256) (h : ∀ i, i < 4 → wd a i = wd b i) : a = b := by
  refine Nat.eq_of_testBit_eq fun j => ?_
  by_cases hj : j < 256
  · have h1 := h (j / 64) (by omega)
    have h2 := wd_bit a (j / 64) (j % 64)
    have h3 := wd_bit b (j / 64) (j % 64)
    rw [h1] at h2
    have h4 : j % 64 < 64 := by omega
    rw [show 64 * (j / 64) + j % 64 = j by omega, decide_eq_true h4, Bool.true_and] at h2 h3
    rw [← h2, h3]
  · rw [Nat.testBit_lt_two_pow (Nat.lt_of_lt_of_le ha (Nat.pow_le_pow_right (by decide) (by omega))), Nat.testBit_lt_two_pow (Nat.lt_of_lt_of_le hb (Nat.pow_le_pow_right (by decide) (by omega)))]
theorem bits_xor_u64 (a b : Nat) (ha : a < 18446744073709551616) (hb : b < 18446744073709551616) : bits .xor .u64 (a : Int) (b : Int) = ((a ^^^ b : Nat) : Int) := by
  have hx : a ^^^ b < 2 ^ 64 := Nat.xor_lt_two_pow (by omega) (by omega)
  have h1 : (BitVec.ofInt 64 (a : Int)).toNat = a := by
    rw [BitVec.ofInt_natCast, BitVec.toNat_ofNat]; exact Nat.mod_eq_of_lt (by omega)
  have h2 : (BitVec.ofInt 64 (b : Int)).toNat = b := by
    rw [BitVec.ofInt_natCast, BitVec.toNat_ofNat]; exact Nat.mod_eq_of_lt (by omega)
  show IntKind.u64.wrap ((BitVec.ofInt 64 (a : Int) ^^^ BitVec.ofInt 64 (b : Int)).toNat : Int) = _
  rw [BitVec.toNat_xor, h1, h2, IntKind.wrap_u64]
  omega
theorem bits_andNot_u64 (a b : Nat) (ha : a < 18446744073709551616) (hb : b < 18446744073709551616) : bits .andNot .u64 (a : Int) (b : Int) = ((a &&& (18446744073709551615 ^^^ b) : Nat) : Int) := by
  have h1 : (BitVec.ofInt 64 (a : Int)).toNat = a := by
    rw [BitVec.ofInt_natCast, BitVec.toNat_ofNat]; exact Nat.mod_eq_of_lt (by omega)
  have h2 : (BitVec.ofInt 64 (b : Int)).toNat = b := by
    rw [BitVec.ofInt_natCast, BitVec.toNat_ofNat]; exact Nat.mod_eq_of_lt (by omega)
  have hn : (~~~ BitVec.ofInt 64 (b : Int)).toNat = 18446744073709551615 ^^^ b := by
    rw [BitVec.toNat_not, h2]
    refine Nat.eq_of_testBit_eq fun j => ?_
    have e : (18446744073709551615 : Nat) = 2 ^ 64 - 1 := by decide
    rw [Nat.testBit_xor, e, Nat.testBit_two_pow_sub_one, show 2 ^ 64 - 1 - b = 2 ^ 64 - (b + 1) by omega, Nat.testBit_two_pow_sub_succ (by omega)]
    by_cases hj : j < 64
    · simp [hj]
    · have : b.testBit j = false := Nat.testBit_lt_two_pow (Nat.lt_of_lt_of_le (show b < 2 ^ 64 by omega) (Nat.pow_le_pow_right (by decide) (by omega)))
      simp [hj, this]
  have hx : a &&& (18446744073709551615 ^^^ b) < 2 ^ 64 := Nat.and_lt_two_pow _ (Nat.xor_lt_two_pow (by decide) (by omega))
  show IntKind.u64.wrap ((BitVec.ofInt 64 (a : Int) &&& ~~~ BitVec.ofInt 64 (b : Int)).toNat : Int) = _
  rw [BitVec.toNat_and, h1, hn, IntKind.wrap_u64]
  omega

theorem union_c (x y : Nat) (hx : x < 18446744073709551616) (hy : y < 18446744073709551616) (w : World) : Calls Tryz.prog 99 #[vu x, vu y] w fun e w' => e = .returned (vu (x ||| y)) ∧ w' = w := by
  have h := bits_or_u64_nat x y hx hy
  go_enter Tryz.func99, Tryz.ntmps99
  go_wp2
  go_ret
  exact ⟨rfl, rfl⟩
theorem inter_c (x y : Nat) (hx : x < 18446744073709551616) (hy : y < 18446744073709551616) (w : World) : Calls Tryz.prog 98 #[vu x, vu y] w fun e w' => e = .returned (vu (x &&& y)) ∧ w' = w := by
  have h := bits_and_u64_nat x y hx hy
  go_enter Tryz.func98, Tryz.ntmps98
  go_wp2
  go_ret
  exact ⟨rfl, rfl⟩
theorem minus_c (x y : Nat) (hx : x < 18446744073709551616) (hy : y < 18446744073709551616) (w : World) : Calls Tryz.prog 123 #[vu x, vu y] w fun e w' => e = .returned (vu (x &&& (18446744073709551615 ^^^ y))) ∧ w' = w := by
  have h := bits_andNot_u64 x y hx hy
  go_enter Tryz.func123, Tryz.ntmps123
  go_wp2
  go_ret
  exact ⟨rfl, rfl⟩
theorem not_c (x y : Nat) (hx : x < 18446744073709551616) (w : World) : Calls Tryz.prog 100 #[vu x, vu y] w fun e w' => e = .returned (vu (18446744073709551615 ^^^ x)) ∧ w' = w := by
  have h : bits .xor .u64 18446744073709551615 (x : Int) = ((18446744073709551615 ^^^ x : Nat) : Int) := bits_xor_u64 18446744073709551615 x (by decide) hx
  have hm : IntKind.u64.max = 18446744073709551615 := by decide
  go_enter Tryz.func100, Tryz.ntmps100
  go_wp2
  go_ret
  exact ⟨rfl, rfl⟩
theorem not_c' (x y : Nat) (hx : x < 18446744073709551616) (_hy : y < 18446744073709551616) (w : World) : Calls Tryz.prog 100 #[vu x, vu y] w fun e w' => e = .returned (vu (18446744073709551615 ^^^ x)) ∧ w' = w := not_c x y hx w

theorem size28 : (Tryz.prog.info? 28).map (·.size) = some 3 := by kernel_rfl
theorem size36 : (Tryz.prog.info? 36).map (·.size) = some 2 := by kernel_rfl
theorem size56 : (Tryz.prog.info? 56).map (·.size) = some 4 := by kernel_rfl
theorem size58 : (Tryz.prog.info? 58).map (·.size) = some 9 := by kernel_rfl
theorem size71 : (Tryz.prog.info? 71).map (·.size) = some 256 := by kernel_rfl
theorem size73 : (Tryz.prog.info? 73).map (·.size) = some 259 := by kernel_rfl
theorem size128 : (Tryz.prog.info? 128).map (·.size) = some 3 := by kernel_rfl
theorem size163 : (Tryz.prog.info? 163).map (·.size) = some 2 := by kernel_rfl
theorem size126 : (Tryz.prog.info? 126).map (·.size) = some 1 := by kernel_rfl

theorem wpList_load_list {P : Program} {w : World} {ops : Array Oper} {rest : List Oper} {o : Oper} {a : Act} {Q : Exit → Act → World → Prop} (hgd : o.guard = none) (ty : TypeId) (x : Operand) (ho : o.op = .load ty x) (p : Addr) (hx : a.eval x = .pointer (some p)) (cs : List Value)
    (hc : ∀ j v, cs[j]? = some v → w.cell? (p.add j) = some v) {d : TypeDesc} (hu : P.underlying ty = some d) (hd : d.isRow = true) (hi : (P.info? ty).map (·.size) = some cs.length) (h : wpList P ops Q rest (a.put o.dst (.agg cs.toArray)) w) : wpList P ops Q (o :: rest) a w := by
  refine wpList_plain hgd fun _ hK => ?_
  have hl : (loadCells p cs.length).run P w = .ok cs.toArray w := run_loadCells_list (P := P) w p cs hc
  have hv : (loadVar ty p).run P w = .ok (.agg cs.toArray) w := by
    cases hq : P.info? ty with
    | none => simp [hq] at hi
    | some i =>
      have hs : i.size = cs.length := by simpa [hq] using hi
      have hagg : (isAgg ty).run P w = .ok true w := by
        unfold isAgg
        rw [Sem.run_bind, run_underlying hu w]
        cases d <;> simp_all
      simp [loadVar, Sem.run_bind, hagg, sizeOf, typeInfo, hq, hs, hl]
  unfold Oper.wp execOp
  simp only [ho, hx, Instr.loadAt, Instr.sureAddr, Sem.run_bind, Sem.run_pure, Result.andThen_ok, hv]
  exact hK _ _ h

theorem results_ct {P : Program} {fn : Func} {t t2 : Tmp} {ty : TypeId} (h : fn.results = #[.cell t2 ty, .tmp t]) (tmps : Array Value) (w : World) (v : Value) (h1 : tmps.getD t undef = v) (g : Nat) (ht : tmps.getD t2 undef = .pointer (some ⟨g, 0, none⟩)) (t' : TypeId) (cs : Array Value) (hb : Blk w g t' cs)
    {d : TypeDesc} (hu : P.underlying ty = some d) (hd : (match d with | .struct _ | .array _ _ => true | _ => false) = true) (hi : (P.info? ty).map (·.size) = some cs.size) : (results fn tmps).run P w = .ok (.tuple #[.agg cs, v]) w := by
  have h2 := run_loadVar_row w g t' ty cs (0, 0) d hb hu hd hi
  have e : tmps[t2]?.getD undef = .pointer (some ⟨g, 0, none⟩) := by simpa using ht
  have e2 : tmps[t]?.getD undef = v := by simpa using h1
  unfold results
  rw [h]
  simp [e, e2, asAddr, h2]
theorem encC_one (c : Nat) : (ccells c).all (·.oneCell') = true := by simp [ccells, Value.oneCell']
/-- one to four blocks of one's own -/
theorem al1 (w : World) (t1 : TypeId) (c1 : Array Value) : Below w.heap.size w (w.alloc (.cells c1 t1)) ∧ Blk (w.alloc (.cells c1 t1)) w.heap.size t1 c1 := ⟨(Below.refl _ w).alloc (Nat.le_refl _) _, Blk.new w t1 c1⟩
theorem al2 (w : World) (t1 t2 : TypeId) (c1 c2 : Array Value) : Below w.heap.size w ((w.alloc (.cells c1 t1)).alloc (.cells c2 t2)) ∧ Blk ((w.alloc (.cells c1 t1)).alloc (.cells c2 t2)) w.heap.size t1 c1 ∧ Blk ((w.alloc (.cells c1 t1)).alloc (.cells c2 t2)) (w.heap.size + 1) t2 c2 := by
  have h2 := Blk.new (w.alloc (.cells c1 t1)) t2 c2
  simp only [World.size_alloc] at h2
  exact ⟨((Below.refl _ w).alloc (Nat.le_refl _) _).alloc (by simp) _, (Blk.new w t1 c1).alloc _, h2⟩
theorem al3 (w : World) (t1 t2 t3 : TypeId) (c1 c2 c3 : Array Value) : Below w.heap.size w (((w.alloc (.cells c1 t1)).alloc (.cells c2 t2)).alloc (.cells c3 t3)) ∧ Blk (((w.alloc (.cells c1 t1)).alloc (.cells c2 t2)).alloc (.cells c3 t3)) w.heap.size t1 c1 ∧ Blk (((w.alloc (.cells c1 t1)).alloc (.cells c2 t2)).alloc (.cells c3 t3)) (w.heap.size + 1) t2 c2 ∧ Blk (((w.alloc (.cells c1 t1)).alloc (.cells c2 t2)).alloc (.cells c3 t3)) (w.heap.size + 1 + 1) t3 c3 := by
  obtain ⟨h, h1, h2⟩ := al2 w t1 t2 c1 c2
  have h3 := Blk.new ((w.alloc (.cells c1 t1)).alloc (.cells c2 t2)) t3 c3
  simp only [World.size_alloc] at h3
  exact ⟨h.alloc (by simp; omega) _, h1.alloc _, h2.alloc _, h3⟩
end Go.Proofs.YtjgkdfghjeodeaaGreatDoor
namespace Go.Proofs.YtjgkdfghjeodeaaGreatDoor

/-- the bits of a word -/
def memW (x : Nat) : List Nat := (List.range 64).filter (fun j => x.testBit j)
/-- the members of a class -/
def bytesC (c : Nat) : List Nat := (List.range 256).filter (fun j => c.testBit j)
/-- what the words from i on give -/
def tailC (c i : Nat) : List Nat := (List.range' (64 * i) (256 - 64 * i)).filter (fun j => c.testBit j)

theorem ctz_bits (x : Nat) (h0 : x ≠ 0) (hx : x < 2 ^ 64) : Lib.ctz 64 x < 64 ∧ x.testBit (Lib.ctz 64 x) = true ∧ (∀ j, j < Lib.ctz 64 x → x.testBit j = false) ∧ ∀ j, (x &&& (x - 1)).testBit j = (x.testBit j && decide (j ≠ Lib.ctz 64 x)) := by
  have hpos : 0 < x := Nat.pos_of_ne_zero h0
  obtain ⟨m, hm, hk⟩ := Lib.ctzFrom_spec 64 x hpos hx
  have hc : Lib.ctz 64 x = Lib.ctzFrom 64 x := by unfold Lib.ctz; rw [if_neg h0]
  rw [hc]
  generalize Lib.ctzFrom 64 x = k at *
  have hb : ∀ j, x.testBit j = if j < k then false else (2 * m + 1).testBit (j - k) := fun j => by
    rw [hm]
    have := Nat.testBit_two_pow_mul_add (2 * m + 1) (b := 0) (i := k) (Nat.two_pow_pos k) j
    rw [Nat.add_zero] at this
    rw [this]
    simp
  have hm1 : x - 1 = 2 ^ k * (2 * m) + (2 ^ k - 1) := by
    have : 0 < 2 ^ k := Nat.two_pow_pos k
    rw [hm, Nat.mul_add, Nat.mul_one]
    omega
  have hb1 : ∀ j, (x - 1).testBit j = if j < k then true else (2 * m).testBit (j - k) := fun j => by
    rw [hm1, Nat.testBit_two_pow_mul_add (2 * m) (b := 2 ^ k - 1) (i := k) (by have : 0 < 2 ^ k := Nat.two_pow_pos k; omega) j]
    by_cases hj : j < k
    · simp [hj, Nat.testBit_two_pow_sub_one]
    · simp [hj]
  refine ⟨hk, ?_, fun j hj => ?_, fun j => ?_⟩
  · rw [hb k]; simp
  · rw [hb j]; simp [hj]
  · rw [Nat.testBit_and, hb j, hb1 j]
    by_cases hj : j < k
    · simp [hj]
    · by_cases he : j = k
      · subst he; simp
      · obtain ⟨d, rfl⟩ : ∃ d, j = k + d + 1 := ⟨j - k - 1, by omega⟩
        have e1 : k + d + 1 - k = d + 1 := by omega
        have e2 : (2 * m + 1).testBit (d + 1) = m.testBit d := by rw [Nat.testBit_succ]; congr 1; omega
        have e3 : (2 * m).testBit (d + 1) = m.testBit d := by rw [Nat.testBit_succ]; congr 1; omega
        rw [if_neg hj, if_neg hj, e1, e2, e3]
        have : k + d + 1 ≠ k := by omega
        simp [this]

theorem filter_range_none {p : Nat → Bool} {a n : Nat} (h : ∀ j, a ≤ j → j < a + n → p j = false) : (List.range' a n).filter p = [] := by
  rw [List.filter_eq_nil_iff]
  intro j hj
  rw [List.mem_range'_1] at hj
  simp [h j hj.1 hj.2]
theorem filter_range_eq {p q : Nat → Bool} {a n : Nat} (h : ∀ j, a ≤ j → j < a + n → p j = q j) : (List.range' a n).filter p = (List.range' a n).filter q := by
  refine List.filter_congr fun j hj => ?_
  rw [List.mem_range'_1] at hj
  exact h j hj.1 hj.2
theorem range_split (a n k : Nat) (h : k < n) : List.range' a n = List.range' a k ++ (a + k) :: List.range' (a + k + 1) (n - k - 1) := by
  have h1 : List.range' a n = List.range' a k ++ List.range' (a + k) (n - k) := by
    have := List.range'_append_1 (s := a) (m := k) (n := n - k)
    rw [this]; congr 1; omega
  rw [h1, show n - k = (n - k - 1) + 1 by omega, List.range'_succ]
  simp

theorem memW_step (x : Nat) (h0 : x ≠ 0) (hx : x < 2 ^ 64) : memW x = Lib.ctz 64 x :: memW (x &&& (x - 1)) := by
  obtain ⟨hk, hb, hlo, hcl⟩ := ctz_bits x h0 hx
  generalize Lib.ctz 64 x = k at *
  unfold memW
  rw [List.range_eq_range', range_split 0 64 k hk]
  simp only [Nat.zero_add, List.filter_append, List.filter_cons]
  have h1 : (List.range' 0 k).filter (fun j => x.testBit j) = [] := filter_range_none fun j _ hj => hlo j (by omega)
  have h2 : (List.range' 0 k).filter (fun j => (x &&& (x - 1)).testBit j) = [] := filter_range_none fun j _ hj => by rw [hcl, hlo j (by omega)]; rfl
  have h3 : (x &&& (x - 1)).testBit k = false := by rw [hcl]; simp
  have h4 : (List.range' (k + 1) (64 - k - 1)).filter (fun j => (x &&& (x - 1)).testBit j) = (List.range' (k + 1) (64 - k - 1)).filter (fun j => x.testBit j) := filter_range_eq fun j hj _ => by
    rw [hcl]
    have : j ≠ k := by omega
    simp [this]
  rw [h1, h2, h3, h4, hb]
  simp
theorem memW_zero : memW 0 = [] := by decide
theorem and_pred_lt (x : Nat) (h0 : x ≠ 0) : x &&& (x - 1) < x := Nat.lt_of_le_of_lt Nat.and_le_right (by omega)

theorem memW_word (c i : Nat) : (memW (wd c i)).map (fun j => 64 * i + j) = (List.range' (64 * i) 64).filter (fun j => c.testBit j) := by
  have h1 : List.range' (64 * i) 64 = (List.range 64).map (fun j => 64 * i + j) := by
    rw [List.range'_eq_map_range]
  rw [h1, List.filter_map, memW]
  congr 1
  refine List.filter_congr fun j hj => ?_
  rw [List.mem_range] at hj
  rw [wd_bit, decide_eq_true hj]; rfl
theorem tailC_zero (c : Nat) : tailC c 0 = bytesC c := by unfold tailC bytesC; rw [List.range_eq_range']
theorem tailC_succ (c i : Nat) (h : i < 4) : tailC c i = (memW (wd c i)).map (fun j => 64 * i + j) ++ tailC c (i + 1) := by
  rw [memW_word]
  unfold tailC
  rw [← List.filter_append, show 64 * (i + 1) = 64 * i + 64 by omega]
  congr 1
  have := List.range'_append_1 (s := 64 * i) (m := 64) (n := 256 - (64 * i + 64))
  rw [this]; congr 1; omega
theorem tailC_four (c : Nat) : tailC c 4 = [] := by unfold tailC; rfl
theorem mem_bytesC {c j : Nat} : j ∈ bytesC c ↔ j < 256 ∧ c.testBit j = true := by unfold bytesC; rw [List.mem_filter, List.mem_range]
theorem bytesC_len (c : Nat) : (bytesC c).length ≤ 256 := by
  unfold bytesC
  refine Nat.le_trans (List.length_filter_le _ _) ?_
  rw [List.length_range]; exact Nat.le_refl _
end Go.Proofs.YtjgkdfghjeodeaaGreatDoor
namespace Go.Proofs.YtjgkdfghjeodeaaGreatDoor

structure Dfa where
  cls : List Nat
  nxt : List (List Nat)
  acc : List Bool
deriving DecidableEq

structure Tbl where
  cell : List Nat
  cells : Nat
  nxt : List (List Nat)
  acc : List Bool
deriving DecidableEq

/-- the index of a key -/
def idxK {κ : Type} [DecidableEq κ] (k : κ) : List κ → Nat → Option Nat
  | [], _ => none
  | x :: r, i => if x = k then some i else idxK k r (i + 1)

def setCells (i : Nat) : List Nat → List Nat → List Nat
  | [], c => c
  | b :: r, c => setCells i r (c.set b i)
def cellsOf : List Nat → Nat → List Nat → List Nat
  | [], _, c => c
  | k :: r, i, c => cellsOf r (i + 1) (setCells i (bytesC k) c)
def tableOf (d : Dfa) : Tbl := ⟨cellsOf d.cls 0 (List.replicate 256 0), d.cls.length, d.nxt, d.acc⟩

def rowStep : List Nat → List Bool → List Nat → List Bool × List Nat
  | [], seen, l => (seen, l)
  | tg :: r, seen, l => if seen.getD tg false then rowStep r seen l else rowStep r (seen.set tg true) (l ++ [tg])
def reachLoop (nxt : List (List Nat)) : Nat → Nat → List Bool → List Nat → List Nat
  | 0, _, _, l => l
  | f + 1, i, seen, l => match l[i]? with
    | none => l
    | some s => reachLoop nxt f (i + 1) (rowStep (nxt.getD s []) seen l).1 (rowStep (nxt.getD s []) seen l).2
def reached (nxt : List (List Nat)) : List Nat := reachLoop nxt (nxt.length + 1) 0 ((List.replicate nxt.length false).set 0 true) [0]

def two (x : Nat) : List Nat := [x % 256, x / 256 % 256]
def keyR (block : List Nat) (row : List Nat) : List Nat := row.flatMap fun tg => two (block.getD tg 0)
def keyS (block : List Nat) (nxt : List (List Nat)) (s : Nat) : List Nat := two (block.getD s 0) ++ keyR block (nxt.getD s [])
def refPass (block : List Nat) (nxt : List (List Nat)) : List Nat → List (List Nat) → List Nat → List Nat → List Nat × List Nat
  | [], _, next, reps => (next, reps)
  | s :: r, keys, next, reps => match idxK (keyS block nxt s) keys 0 with
    | some id => refPass block nxt r keys (next.set s id) reps
    | none => refPass block nxt r (keys ++ [keyS block nxt s]) (next.set s reps.length) (reps ++ [s])
def refLoop (nxt : List (List Nat)) (l : List Nat) : Nat → List Nat → Nat → List Nat × List Nat
  | 0, _, _ => ([], [])
  | f + 1, block, count =>
    if (refPass block nxt l [] (List.replicate block.length 0) []).2.length = count then refPass block nxt l [] (List.replicate block.length 0) []
    else refLoop nxt l f (refPass block nxt l [] (List.replicate block.length 0) []).1 (refPass block nxt l [] (List.replicate block.length 0) []).2.length
def accBlock (acc : List Bool) : List Nat → List Nat → List Nat
  | [], b => b
  | s :: r, b => accBlock acc r (if acc.getD s false then b.set s 1 else b)
def refine (t : Tbl) (l : List Nat) : List Nat × List Nat := refLoop t.nxt l (l.length + 2) (accBlock t.acc l (List.replicate t.nxt.length 0)) 0

structure Mg where
  keys : List (List Nat)
  cells : List Nat
  classes : List Nat
  of_ : List Int
deriving DecidableEq
def keyM (nxt : List (List Nat)) (block reps : List Nat) (c : Nat) : List Nat := reps.flatMap fun s => two (block.getD ((nxt.getD s []).getD c 0) 0)
def mgAdd (m : Mg) (b : Nat) (id : Nat) : Mg := { m with classes := m.classes.set id (m.classes.getD id 0 ||| 2 ^ b) }
def mgStep (t : Tbl) (block reps : List Nat) (m : Mg) (b : Nat) : Mg :=
  let c := t.cell.getD b 0
  let o := m.of_.getD c 0
  if 0 ≤ o then mgAdd m b o.toNat
  else match idxK (keyM t.nxt block reps c) m.keys 0 with
    | some id => mgAdd { m with of_ := m.of_.set c id } b id
    | none => mgAdd ⟨m.keys ++ [keyM t.nxt block reps c], m.cells ++ [c], m.classes ++ [0], m.of_.set c (m.cells.length : Nat)⟩ b m.cells.length
def mgLoop (t : Tbl) (block reps : List Nat) : Nat → Nat → Mg → Mg
  | 0, _, m => m
  | f + 1, b, m => mgLoop t block reps f (b + 1) (mgStep t block reps m b)
def mergeT (t : Tbl) (block reps : List Nat) : Mg := mgLoop t block reps 256 0 ⟨[], [], [], List.replicate t.cells (-1)⟩

def cnRow (nxt : List (List Nat)) (block : List Nat) (s : Nat) : List Nat → List Int → List Nat → List Nat → List Int × List Nat × List Nat
  | [], place, order, row => (place, order, row)
  | c :: r, place, order, row =>
    let tg := block.getD ((nxt.getD s []).getD c 0) 0
    let p := place.getD tg 0
    if p < 0 then cnRow nxt block s r (place.set tg (order.length : Nat)) (order ++ [tg]) (row ++ [order.length])
    else cnRow nxt block s r place order (row ++ [p.toNat])
def cnLoop (t : Tbl) (block reps cells : List Nat) : Nat → Nat → List Int → List Nat → List (List Nat) → List Bool → List (List Nat) × List Bool
  | 0, _, _, _, ns, acs => (ns, acs)
  | f + 1, i, place, order, ns, acs => match order[i]? with
    | none => (ns, acs)
    | some o =>
      let s := reps.getD o 0
      let r := cnRow t.nxt block s cells place order []
      cnLoop t block reps cells f (i + 1) r.1 r.2.1 (ns ++ [r.2.2]) (acs ++ [t.acc.getD s false])
def canonB (t : Tbl) (block reps : List Nat) : Dfa :=
  let m := mergeT t block reps
  let r := cnLoop t block reps m.cells (reps.length + 1) 0 ((List.replicate reps.length (-1)).set (block.getD 0 0) 0) [block.getD 0 0] [] []
  ⟨m.classes, r.1, r.2⟩
def canonical (t : Tbl) : Dfa := canonB t (refine t (reached t.nxt)).1 (refine t (reached t.nxt)).2
def limited (t : Tbl) : Dfa × Nat := if 64 < (canonical t).nxt.length then (⟨[], [], []⟩, 2) else (canonical t, 0)

def wordT (w : List Nat) : Tbl :=
  ⟨List.range 256, 256, (List.range (w.length + 2)).map fun s => (if s < w.length then (List.replicate 256 (w.length + 1)).set (w.getD s 0) (s + 1) else List.replicate 256 (w.length + 1)), (List.range (w.length + 2)).map fun s => decide (s = w.length)⟩
def wordD (w : List Nat) : Dfa × Nat := if 62 < w.length then (⟨[], [], []⟩, 2) else (canonical (wordT w), 0)

def jtLoop (a b : List Nat) : Nat → Nat → List (Nat × Nat) → List Nat → List Nat → List Nat × List Nat
  | 0, _, _, bytes, cell => (cell, bytes)
  | f + 1, x, keys, bytes, cell => match idxK (a.getD x 0, b.getD x 0) keys 0 with
    | some id => jtLoop a b f (x + 1) keys bytes (cell.set x id)
    | none => jtLoop a b f (x + 1) (keys ++ [(a.getD x 0, b.getD x 0)]) (bytes ++ [x]) (cell.set x bytes.length)
def joint (a b : List Nat) : List Nat × List Nat := jtLoop a b 256 0 [] [] (List.replicate 256 0)

structure St where
  p : Nat
  q : Nat
  s : Nat
deriving DecidableEq

/-- one row of a construction; none: too many states -/
def exRow (next : St → Nat → St) (most : Nat) (st : St) : List Nat → List St → List Nat → Option (List St × List Nat)
  | [], l, row => some (l, row)
  | b :: r, l, row => match idxK (next st b) l 0 with
    | some id => exRow next most st r l (row ++ [id])
    | none => if l.length = most then none else exRow next most st r (l ++ [next st b]) (row ++ [l.length])
def exLoop (bytes : List Nat) (next : St → Nat → St) (accept : St → Bool) (most : Nat) : Nat → Nat → List St → List (List Nat) → List Bool → Option (List (List Nat) × List Bool)
  | 0, _, _, ns, acs => some (ns, acs)
  | f + 1, i, l, ns, acs => match l[i]? with
    | none => some (ns, acs)
    | some s => match exRow next most s bytes l [] with
      | none => none
      | some (l', row) => exLoop bytes next accept most f (i + 1) l' (ns ++ [row]) (acs ++ [accept s])
def explore (cell bytes : List Nat) (start : St) (next : St → Nat → St) (accept : St → Bool) (most fuel : Nat) : Option Tbl :=
  (exLoop bytes next accept most fuel 0 [start] [] []).map fun r => ⟨cell, bytes.length, r.1, r.2⟩

def prodNext (x y : Tbl) (s : St) (c : Nat) : St := ⟨(x.nxt.getD s.p []).getD (x.cell.getD c 0) 0, (y.nxt.getD s.q []).getD (y.cell.getD c 0) 0, 0⟩
def product (a b : Dfa) (h : Bool → Bool → Bool) : Option Tbl :=
  let x := tableOf a
  let y := tableOf b
  explore (joint x.cell y.cell).1 (joint x.cell y.cell).2 ⟨0, 0, 0⟩ (prodNext x y) (fun s => h (x.acc.getD s.p false) (y.acc.getD s.q false)) 1073741824 5000
def combineD (a b : Dfa) (h : Bool → Bool → Bool) : Dfa × Nat := match product a b h with
  | some t => limited t
  | none => (⟨[], [], []⟩, 2)
def notD (a : Dfa) : Dfa × Nat := (canonical { tableOf a with acc := a.acc.map (!·) }, 0)

def targets (t : Tbl) (s b : Nat) : Nat := (List.range t.nxt.length).foldl (fun o q => if s.testBit q then o ||| 2 ^ ((t.nxt.getD q []).getD (t.cell.getD b 0) 0) else o) 0
def some_ (t : Tbl) (s : Nat) : Bool := (List.range t.acc.length).any fun q => t.acc.getD q false && s.testBit q
def ccEnter (x : Tbl) (s : St) : St := if x.acc.getD s.p false then { s with s := s.s ||| 1 } else s
def ccNext (x y : Tbl) (s : St) (c : Nat) : St := ccEnter x ⟨(x.nxt.getD s.p []).getD (x.cell.getD c 0) 0, 0, targets y s.s c⟩
def concatD (a b : Dfa) : Dfa × Nat :=
  let x := tableOf (canonical (tableOf a))
  let y := tableOf (canonical (tableOf b))
  match explore (joint x.cell y.cell).1 (joint x.cell y.cell).2 (ccEnter x ⟨0, 0, 0⟩) (ccNext x y) (fun s => some_ y s.s) 4096 5000 with
  | some t => limited t
  | none => (⟨[], [], []⟩, 2)
def stNext (x : Tbl) (s : St) (c : Nat) : St := ⟨0, 0, if some_ x (targets x s.s c) then targets x s.s c ||| 1 else targets x s.s c⟩
def starD (a : Dfa) : Dfa × Nat :=
  let x := tableOf (canonical (tableOf a))
  match explore (joint x.cell x.cell).1 (joint x.cell x.cell).2 ⟨1, 0, 1⟩ (stNext x) (fun s => s.p == 1 || some_ x s.s) 4096 5000 with
  | some t => limited t
  | none => (⟨[], [], []⟩, 2)

def leastC (c : Nat) : Nat := (bytesC c).headD 0
/-- class.Cells at no class, at one -/
def cells1 (c : Nat) : List Nat :=
  if c = 0 then [allC] else if notC c = 0 then [c] else if leastC c < leastC (notC c) then [c, notC c] else [notC c, c]
def canonD (d : Dfa) : Dfa × Nat := (canonical (tableOf d), 0)
def noneD : Dfa × Nat := canonD ⟨[allC], [[0]], [false]⟩
def lettersD (c : Nat) : Dfa × Nat :=
  if c = 0 then noneD
  else canonD ⟨cells1 c, [(cells1 c).map (fun k => if c.testBit (leastC k) then 1 else 2), (cells1 c).map (fun _ => 2), (cells1 c).map (fun _ => 2)], [false, true, false]⟩
def powerD : Nat → Dfa → Dfa → Dfa × Nat
  | 0, p, _ => (p, 0)
  | n + 1, p, d => if (concatD p d).2 = 0 then powerD n (concatD p d).1 d else (⟨[], [], []⟩, (concatD p d).2)
def errD (e : Nat) : Dfa × Nat := (⟨[], [], []⟩, e)
/-- high: none: without a bound -/
def repeatD (d : Dfa) (low : Nat) (high : Option Nat) : Dfa × Nat :=
  let e := (wordD []).1
  let p := powerD low e d
  if p.2 ≠ 0 then errD p.2 else if high = some low then p else
  match high with
  | none => if (starD d).2 ≠ 0 then errD (starD d).2 else concatD p.1 (starD d).1
  | some h => if (combineD d e (· || ·)).2 ≠ 0 then errD (combineD d e (· || ·)).2 else powerD (h - low) p.1 (combineD d e (· || ·)).1
/-- a node -/
structure Nd where
  kind : Nat
  c : Nat
  l : Nat
  r : Nat
  min : Nat
  max : Option Nat
deriving DecidableEq
def nil3 : Dfa := ⟨[], [], []⟩
def nodeD (n : Nd) (l : List Dfa) : Dfa × Nat :=
  if n.kind = 1 then noneD
  else if n.kind = 2 then wordD []
  else if n.kind = 3 then lettersD n.c
  else if n.kind = 4 then concatD (l.getD n.l nil3) (l.getD n.r nil3)
  else if n.kind = 5 then combineD (l.getD n.l nil3) (l.getD n.r nil3) (· || ·)
  else if n.kind = 6 then combineD (l.getD n.l nil3) (l.getD n.r nil3) (· && ·)
  else if n.kind = 7 then notD (l.getD n.l nil3)
  else repeatD (l.getD n.l nil3) n.min n.max
def buildLoop : List Nd → List Dfa → Dfa × Nat
  | [], l => (l.getLastD nil3, 0)
  | n :: r, l => if (nodeD n l).2 = 0 then buildLoop r (l ++ [(nodeD n l).1]) else errD (nodeD n l).2
def buildD (x : List Nd) : Dfa × Nat := buildLoop x []
def nodesAB : List Nd := [⟨3, 2 ^ 97, 0, 0, 0, some 0⟩, ⟨3, 2 ^ 98, 0, 0, 0, some 0⟩, ⟨8, 0, 1, 0, 0, none⟩, ⟨4, 0, 0, 2, 0, some 0⟩]
end Go.Proofs.YtjgkdfghjeodeaaGreatDoor
