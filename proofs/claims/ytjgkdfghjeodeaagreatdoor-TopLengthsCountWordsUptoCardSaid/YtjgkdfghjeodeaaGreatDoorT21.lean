/- Counting bits, byte by byte. -/
import Derived.Test.YtjgkdfghjeodeaaGreatDoorT19
namespace Go.Proofs.YtjgkdfghjeodeaaGreatDoor

def rep8 (m : Nat) : Nat → Nat
  | 0 => 0
  | k + 1 => m + 256 * rep8 m k
theorem land_byte (a m y M : Nat) (ha : a < 256) (hm : m < 256) : (a + 256 * y) &&& (m + 256 * M) = (a &&& m) + 256 * (y &&& M) := by
  have key : ∀ (a y j : Nat), a < 256 → (a + 256 * y).testBit j = if j < 8 then a.testBit j else y.testBit (j - 8) := fun a y j ha => by
    rw [Nat.add_comm, show (256 : Nat) = 2 ^ 8 from rfl]
    exact Nat.testBit_two_pow_mul_add y (i := 8) ha j
  refine Nat.eq_of_testBit_eq fun j => ?_
  rw [Nat.testBit_and, key a y j ha, key m M j hm, key _ _ j (Nat.lt_of_le_of_lt Nat.and_le_left ha)]
  split
  · rw [Nat.testBit_and]
  · rw [Nat.testBit_and]
def st1 (k x : Nat) : Nat := (x / 2 &&& rep8 85 k) + (x &&& rep8 85 k)
def st2 (k x : Nat) : Nat := (x / 4 &&& rep8 51 k) + (x &&& rep8 51 k)
def st3 (k x : Nat) : Nat := (x / 16 + x) &&& rep8 15 k
def b1 (a : Nat) : Nat := (a / 2 &&& 85) + (a &&& 85)
def b2 (a : Nat) : Nat := (a / 4 &&& 51) + (a &&& 51)
def cntB (a : Nat) : Nat := ((List.range 8).filter (fun j => a.testBit j)).length
theorem byte_facts : ∀ a : Fin 256, b1 a.val < 256 ∧ b2 (b1 a.val) < 256 ∧ b2 (b1 a.val) % 16 ≤ 4 ∧ b2 (b1 a.val) / 16 ≤ 4 ∧ (b2 (b1 a.val) / 16 + b2 (b1 a.val)) % 16 = cntB a.val ∧ cntB a.val ≤ 8 := by decide +kernel
theorem half_mask : ∀ a : Fin 256, ((a.val / 2 + 128) &&& 85) = (a.val / 2 &&& 85) := by decide +kernel
theorem quarter_mask : ∀ (a : Fin 256) (r : Fin 4), ((a.val / 4 + 64 * r.val) &&& 51) = (a.val / 4 &&& 51) := by decide +kernel
theorem low_mask : ∀ a : Fin 256, (a.val &&& 15) = a.val % 16 := by decide +kernel
theorem st1_byte (k a y : Nat) (ha : a < 256) : st1 (k + 1) (a + 256 * y) = b1 a + 256 * st1 k y := by
  unfold st1 b1
  have e : (a + 256 * y) / 2 = (a / 2 + 128 * (y % 2)) + 256 * (y / 2) := by omega
  rw [e, rep8, land_byte _ 85 _ _ (by omega) (by decide), land_byte _ 85 _ _ ha (by decide)]
  have h : (a / 2 + 128 * (y % 2)) &&& 85 = (a / 2 &&& 85) := by
    rcases Nat.mod_two_eq_zero_or_one y with h | h <;> rw [h]
    · rfl
    · exact half_mask ⟨a, ha⟩
  rw [h]
  omega
theorem st2_byte (k a y : Nat) (ha : a < 256) : st2 (k + 1) (a + 256 * y) = b2 a + 256 * st2 k y := by
  unfold st2 b2
  have e : (a + 256 * y) / 4 = (a / 4 + 64 * (y % 4)) + 256 * (y / 4) := by omega
  rw [e, rep8, land_byte _ 51 _ _ (by omega) (by decide), land_byte _ 51 _ _ ha (by decide)]
  have h : (a / 4 + 64 * (y % 4)) &&& 51 = (a / 4 &&& 51) := quarter_mask ⟨a, ha⟩ ⟨y % 4, Nat.mod_lt _ (by decide)⟩
  rw [h]
  omega
theorem st3_byte (k a y : Nat) (h1 : a % 16 ≤ 4) (h2 : a / 16 ≤ 4) (hy : y % 16 ≤ 4) : st3 (k + 1) (a + 256 * y) = (a / 16 + a) % 16 + 256 * st3 k y := by
  unfold st3
  have e : (a + 256 * y) / 16 + (a + 256 * y) = (a / 16 + a + 16 * (y % 16)) + 256 * (y / 16 + y) := by omega
  rw [e, rep8, land_byte _ 15 _ _ (by omega) (by decide)]
  have h : (a / 16 + a + 16 * (y % 16)) &&& 15 = (a / 16 + a) % 16 := by
    have := low_mask ⟨a / 16 + a + 16 * (y % 16), by omega⟩
    dsimp only at this
    rw [this]
    omega
  rw [h]
def pk (cs : List Nat) : Nat := match cs with
  | [] => 0
  | c :: r => c + 256 * pk r
def bytesOf : Nat → Nat → List Nat
  | 0, _ => []
  | k + 1, x => x % 256 :: bytesOf k (x / 256)
theorem swar (k : Nat) : ∀ x, x < 256 ^ k → st1 k x < 256 ^ k ∧ 2 * st2 k (st1 k x) < 256 ^ k ∧ st2 k (st1 k x) % 16 ≤ 4 ∧ st3 k (st2 k (st1 k x)) = pk ((bytesOf k x).map cntB) := by
  induction k with
  | zero =>
    intro x hx
    have : x = 0 := by simpa using hx
    subst this
    decide
  | succ k ih =>
    intro x hx
    have hlt : x / 256 < 256 ^ k := by rw [Nat.pow_succ] at hx; exact Nat.div_lt_of_lt_mul (by omega)
    obtain ⟨i1, i2, i3, i4⟩ := ih (x / 256) hlt
    obtain ⟨f1, f2, f3, f4, f5, f6⟩ := byte_facts ⟨x % 256, Nat.mod_lt _ (by decide)⟩
    dsimp only at f1 f2 f3 f4 f5 f6
    have e : x = x % 256 + 256 * (x / 256) := by omega
    have h5 := f5
    have h4 := i4
    have e1 : st1 (k + 1) x = b1 (x % 256) + 256 * st1 k (x / 256) := by
      rw [← st1_byte k _ _ (Nat.mod_lt _ (by decide)), ← e]
    have e2 : st2 (k + 1) (st1 (k + 1) x) = b2 (b1 (x % 256)) + 256 * st2 k (st1 k (x / 256)) := by rw [e1, st2_byte k _ _ f1]
    have e3 : st3 (k + 1) (st2 (k + 1) (st1 (k + 1) x)) = (b2 (b1 (x % 256)) / 16 + b2 (b1 (x % 256))) % 16 + 256 * st3 k (st2 k (st1 k (x / 256))) := by rw [e2, st3_byte k _ _ f3 f4 i3]
    have hp : 256 ^ (k + 1) = 256 * 256 ^ k := by rw [Nat.pow_succ, Nat.mul_comm]
    clear f5 f6 i4 e ih hx hlt
    refine ⟨?_, ?_, ?_, ?_⟩
    · rw [e1, hp]; omega
    · rw [e2, hp]; omega
    · rw [e2, show 256 * st2 k (st1 k (x / 256)) = 16 * (16 * st2 k (st1 k (x / 256))) by omega, Nat.add_mul_mod_self_left]; exact f3
    · rw [e3, h5, h4]
      rfl
theorem bytesOf_cnt : ∀ (k x : Nat), ((List.range (8 * k)).filter (fun j => x.testBit j)).length = ((bytesOf k x).map cntB).sum
  | 0, x => rfl
  | k + 1, x => by
    rw [bytesOf, List.map_cons, List.sum_cons, ← bytesOf_cnt k (x / 256), show 8 * (k + 1) = 8 + 8 * k by omega, List.range_add, List.filter_append, List.length_append, List.filter_map, List.length_map]
    congr 1
    · unfold cntB
      congr 1
      refine List.filter_congr fun j hj => ?_
      have := List.mem_range.1 hj
      rw [show (256 : Nat) = 2 ^ 8 from rfl, Nat.testBit_mod_two_pow]
      simp [this]
    · congr 1
      refine List.filter_congr fun j _ => ?_
      show x.testBit (8 + j) = _
      rw [show (256 : Nat) = 2 ^ 8 from rfl, Nat.testBit_div_two_pow, Nat.add_comm]
theorem memW_cnt (x : Nat) : (memW x).length = ((bytesOf 8 x).map cntB).sum := bytesOf_cnt 8 x
theorem cntB_le (x : Nat) : cntB (x % 256) ≤ 8 := (byte_facts ⟨x % 256, Nat.mod_lt _ (by decide)⟩).2.2.2.2.2
theorem dv1 (a r : Nat) (h : a < 256) : (a + 256 * r) / 256 = r := by rw [Nat.add_mul_div_left _ _ (by decide), Nat.div_eq_of_lt h, Nat.zero_add]
theorem dv2 (a b r : Nat) (h : a < 256) (h' : b < 256) : (a + 256 * (b + 256 * r)) / 65536 = r := by
  rw [show 65536 = 256 * 256 from rfl, ← Nat.div_div_eq_div_mul, dv1 _ _ h, dv1 _ _ h']
theorem dv4 (a b c d r : Nat) (h : a < 256) (h' : b < 256) (h2 : c < 256) (h3 : d < 256) : (a + 256 * (b + 256 * (c + 256 * (d + 256 * r)))) / 4294967296 = r := by
  rw [show 4294967296 = 65536 * 65536 from rfl, ← Nat.div_div_eq_div_mul, dv2 _ _ _ h h', dv2 _ _ _ h2 h3]
theorem id4 (c0 c1 c2 c3 c4 c5 c6 c7 : Nat) : c0 + 256 * (c1 + 256 * (c2 + 256 * (c3 + 256 * (c4 + 256 * (c5 + 256 * (c6 + 256 * c7)))))) + (c1 + 256 * (c2 + 256 * (c3 + 256 * (c4 + 256 * (c5 + 256 * (c6 + 256 * c7)))))) = (c0 + c1) + 256 * ((c1 + c2) + 256 * ((c2 + c3) + 256 * ((c3 + c4) + 256 * ((c4 + c5) + 256 * ((c5 + c6) + 256 * ((c6 + c7) + 256 * c7)))))) := by omega
theorem id5 (a b c d e f g h : Nat) : a + 256 * (b + 256 * (c + 256 * (d + 256 * (e + 256 * (f + 256 * (g + 256 * h)))))) + (c + 256 * (d + 256 * (e + 256 * (f + 256 * (g + 256 * h))))) = (a + c) + 256 * ((b + d) + 256 * ((c + e) + 256 * ((d + f) + 256 * ((e + g) + 256 * ((f + h) + 256 * (g + 256 * h)))))) := by omega
theorem id6 (a b c d e f g h : Nat) : a + 256 * (b + 256 * (c + 256 * (d + 256 * (e + 256 * (f + 256 * (g + 256 * h)))))) + (e + 256 * (f + 256 * (g + 256 * h))) = (a + e) + 256 * ((b + f) + 256 * ((c + g) + 256 * ((d + h) + 256 * (e + 256 * (f + 256 * (g + 256 * h)))))) := by omega
theorem bd8 (a b c d e f g h : Nat) (ha : a ≤ 64) (hb : b ≤ 64) (hc : c ≤ 64) (hd : d ≤ 64) (he : e ≤ 64) (hf : f ≤ 64) (hg : g ≤ 64) (hh : h ≤ 64) : a + 256 * (b + 256 * (c + 256 * (d + 256 * (e + 256 * (f + 256 * (g + 256 * h)))))) < 9223372036854775808 := by omega
/-- what the folding gives -/
theorem fold_sum (c0 c1 c2 c3 c4 c5 c6 c7 x3 x4 x5 x6 : Nat) (h0 : c0 ≤ 8) (h1 : c1 ≤ 8) (h2 : c2 ≤ 8) (h3 : c3 ≤ 8) (h4 : c4 ≤ 8) (h5 : c5 ≤ 8) (h6 : c6 ≤ 8) (h7 : c7 ≤ 8)
    (e3 : x3 = c0 + 256 * (c1 + 256 * (c2 + 256 * (c3 + 256 * (c4 + 256 * (c5 + 256 * (c6 + 256 * c7)))))))
    (e4 : x4 = x3 + x3 / 256) (e5 : x5 = x4 + x4 / 65536) (e6 : x6 = x5 + x5 / 4294967296) : x6 % 128 = c0 + c1 + c2 + c3 + c4 + c5 + c6 + c7 ∧ x6 < 9223372036854775808 ∧ x5 < 9223372036854775808 ∧ x4 < 9223372036854775808 ∧ x3 < 9223372036854775808 := by
  have b3 : x3 < 9223372036854775808 := by rw [e3]; exact bd8 _ _ _ _ _ _ _ _ (by omega) (by omega) (by omega) (by omega) (by omega) (by omega) (by omega) (by omega)
  rw [e3, dv1 _ _ (by omega), id4] at e4
  clear e3
  have b4 : x4 < 9223372036854775808 := by rw [e4]; exact bd8 _ _ _ _ _ _ _ _ (by omega) (by omega) (by omega) (by omega) (by omega) (by omega) (by omega) (by omega)
  rw [e4, dv2 _ _ _ (by omega) (by omega), id5] at e5
  clear e4
  have b5 : x5 < 9223372036854775808 := by rw [e5]; exact bd8 _ _ _ _ _ _ _ _ (by omega) (by omega) (by omega) (by omega) (by omega) (by omega) (by omega) (by omega)
  rw [e5, dv4 _ _ _ _ _ (by omega) (by omega) (by omega) (by omega), id6] at e6
  clear e5
  have b6 : x6 < 9223372036854775808 := by rw [e6]; exact bd8 _ _ _ _ _ _ _ _ (by omega) (by omega) (by omega) (by omega) (by omega) (by omega) (by omega) (by omega)
  refine ⟨?_, b6, b5, b4, b3⟩
  have hm : ∀ a r : Nat, a < 128 → (a + 256 * r) % 128 = a := fun a r h => by
    rw [show 256 * r = 128 * (2 * r) by omega, Nat.add_mul_mod_self_left, Nat.mod_eq_of_lt h]
  rw [e6, hm _ _ (by omega)]
  omega
end Go.Proofs.YtjgkdfghjeodeaaGreatDoor
namespace Go.Proofs.YtjgkdfghjeodeaaGreatDoor
open Go.RowKit

/-- a set of lengths as a value -/
structure RG (w : World) (K : Nat → Prop) (v : Value) (l : List Bool × List Bool) : Prop where
  pos : 1 ≤ l.2.length
  top : l.1.length + l.2.length ≤ 512
  ex : ∃ A1 c1 A2 c2, v = .agg #[.slice A1 l.1.length c1, .slice A2 l.2.length c2] ∧ RL_ w K A1 l.1.length c1 l.1 ∧ RL_ w K A2 l.2.length c2 l.2
theorem RG.old {w w' : World} {K : Nat → Prop} {v : Value} {l : List Bool × List Bool} (h : RG w K v l) (ho : Old K w w') : RG w' K v l := by
  obtain ⟨A1, c1, A2, c2, e, h1, h2⟩ := h.ex
  exact ⟨h.pos, h.top, A1, c1, A2, c2, e, h1.old ho, h2.old ho⟩
theorem RG.below {w w' : World} {K : Nat → Prop} {v : Value} {l : List Bool × List Bool} (h : RG w K v l) (hb : Below w.heap.size w w') : RG w' K v l := h.old (Old.of_below hb)
theorem RG.weak {w : World} {K K' : Nat → Prop} {v : Value} {l : List Bool × List Bool} (h : RG w K v l) (hK : ∀ k, k < w.heap.size → K k → K' k) : RG w K' v l := by
  obtain ⟨A1, c1, A2, c2, e, h1, h2⟩ := h.ex
  exact ⟨h.pos, h.top, A1, c1, A2, c2, e, h1.weak hK, h2.weak hK⟩
set_option maxRecDepth 100000 in
theorem lvalid_c (A1 A2 : Option Addr) (n1 c1 n2 c2 : Nat) (h1 : 1 ≤ n2) (h2 : n1 + n2 ≤ 512) (w : World) : Calls Tryz.prog 25 #[.agg #[.slice A1 n1 c1, .slice A2 n2 c2]] w fun e w' => e = .returned (.bool true) ∧ Below w.heap.size w w' := by
  have d1 : decide ((n2 : Int) > 0) = true := by simp; omega
  have d2 : decide ((n1 : Int) ≤ 512) = true := by simp; omega
  have d3 : decide ((n2 : Int) ≤ 512 - (n1 : Int)) = true := by simp; omega
  go_enter Tryz.func25, Tryz.ntmps25
  go_upto_region 1 with (first
    | (with_reducible refine at_oper (.box 36 (.tmp 0)) rfl ?_
       refine wpList_box_rowG w.heap.size rfl rfl 36 (.tmp 0) rfl #[.slice A1 n1 c1, .slice A2 n2 c2] rfl ?_
       intro w1 k1 b1 s1))
  have f0 := k1.cell 0
  have f1 := k1.cell 1
  have B1 := Lib.hid b1
  clear k1 b1 s1
  replace f0 : w1.cell? ⟨w.heap.size, 0, none⟩ = some (.slice A1 n1 c1) := f0
  replace f1 : w1.cell? ⟨w.heap.size, 1, none⟩ = some (.slice A2 n2 c2) := f1
  go_wp2_with (first
    | (with_reducible refine wpList_unguard ?_ ?_ ?_
       rfl
       rfl))
  go_ret
  exact ⟨rfl, B1.out⟩
set_option maxRecDepth 100000 in
theorem member_c (K : Nat → Prop) (A1 A2 : Option Addr) (n1 c1 n2 c2 : Nat) (l1 l2 : List Bool) (n : Nat) (hn : n ≤ 4611686018427387904) (h1 : 1 ≤ n2) (h2 : n1 + n2 ≤ 512) (w : World) (r1 : RL_ w K A1 n1 c1 l1) (r2 : RL_ w K A2 n2 c2 l2) :
    Calls Tryz.prog 26 #[.agg #[.slice A1 n1 c1, .slice A2 n2 c2], vi n] w fun e w' => e = .returned (.bool (memberL (l1, l2) n)) ∧ Below w.heap.size w w' := by
  have R1 := Lib.hid r1
  have R2 := Lib.hid r2
  have hc1 := r1.cap
  have hc2 := r2.cap
  obtain ⟨y, hy⟩ : ∃ y, memberL (l1, l2) n = y := ⟨_, rfl⟩
  rw [hy]
  have HY := Lib.hid hy
  clear r1 r2 hy
  go_enter Tryz.func26, Tryz.ntmps26
  go_upto_region 1 with (first
    | (with_reducible refine at_oper (.box 36 (.tmp 0)) rfl ?_
       refine wpList_box_rowG w.heap.size rfl rfl 36 (.tmp 0) rfl #[.slice A1 n1 c1, .slice A2 n2 c2] rfl ?_
       intro w1 k1 b1 s1))
  have f0 := k1.cell 0
  have f1 := k1.cell 1
  have B1 := Lib.hid b1
  clear k1 b1 s1
  replace f0 : w1.cell? ⟨w.heap.size, 0, none⟩ = some (.slice A1 n1 c1) := f0
  replace f1 : w1.cell? ⟨w.heap.size, 1, none⟩ = some (.slice A2 n2 c2) := f1
  by_cases hlt : n < n1
  · have d1 : decide ((n : Int) < n1) = true := by simp; omega
    obtain ⟨ad, rfl, _, ca⟩ := (R1.out.below B1.out).at_ hlt
    have HE := Lib.hid (show l1.getD n false = y by
      rw [← HY.out, memberL, if_pos (by rw [R1.out.len]; exact hlt)])
    rw [HE.out] at ca
    go_wp2_with fail
    go_ret
    exact ⟨rfl, B1.out⟩
  · have d1 : decide ((n : Int) < n1) = false := by simp; omega
    obtain ⟨m, hm⟩ : ∃ m, n = n1 + m := ⟨n - n1, by omega⟩
    have hk : m % n2 < n2 := Nat.mod_lt _ (by omega)
    obtain ⟨ad, rfl, _, ca⟩ := (R2.out.below B1.out).at_ hk
    have HE := Lib.hid (show l2.getD (m % n2) false = y by
      rw [← HY.out, memberL, if_neg (by rw [R1.out.len]; exact hlt), R2.out.len, R1.out.len, hm, Nat.add_sub_cancel_left])
    rw [HE.out] at ca
    have hs : (n : Int) - (n1 : Int) = (m : Int) := by omega
    have hrem : Int.tmod (m : Int) (n2 : Int) = ((m % n2 : Nat) : Int) := by
      rw [Int.tmod_eq_emod_of_nonneg (by omega), Int.natCast_emod]
    obtain ⟨k, hkk⟩ : ∃ k, m % n2 = k := ⟨_, rfl⟩
    rw [hkk] at ca hrem hk
    clear hkk hm
    have hm2 : m ≤ 4611686018427387904 := by omega
    have hwm : IntKind.i64.wrap (m : Int) = (m : Int) := i64_wrap _ (by omega)
    have hn0 : ¬ n2 = 0 := by omega
    go_upto_region 3 with fail
    refine wp_region_ws (by kernel_rfl) [true, true, true, true, true, true, true, true, true, true, true, true, true, true] 14 (fun W => W.cell? ⟨w.heap.size, 0, none⟩ = some (.slice A1 n1 c1) ∧ W.cell? ⟨w.heap.size, 1, none⟩ = some (.slice (some ad) n2 c2) ∧ W.cell? (ad.add k) = some (.bool y)) (by decide +kernel) (fun _ _ d _ _ h => by cases d <;> exact h) ⟨f0, f1, ca⟩ ?_
    iterate 14 (refine ws_r ?_ (fun W hS => ?_) ?_; rotate_left; (focus (obtain ⟨q1, q2, q3⟩ := hS; go_simp; first | done | rfl)); simp only [Act.put, List.setIfInBounds_toArray, List.set_cons_zero, List.set_cons_succ])
    refine ws_e ?_
    clear f0 f1 ca hs hrem hwm
    go_wp2_with fail
    go_ret
    exact ⟨rfl, B1.out.drew⟩

set_option maxRecDepth 100000 in
theorem lhas_c (K : Nat → Prop) (v : Value) (l : List Bool × List Bool) (n : Nat) (hn : n ≤ 4611686018427387904) (w : World) (hl : RG w K v l) : Calls Tryz.prog 11 #[v, vi n] w fun e w' => e = .returned (.bool (memberL l n)) ∧ Below w.heap.size w w' := by
  obtain ⟨A1, c1, A2, c2, rfl, r1, r2⟩ := hl.ex
  have h1 := hl.pos
  have h2 := hl.top
  have R1 := Lib.hid (And.intro r1 r2)
  clear r1 r2 hl
  obtain ⟨l1, l2⟩ := l
  dsimp only at h1 h2 R1
  obtain ⟨n1, hn1⟩ : ∃ n1, l1.length = n1 := ⟨_, rfl⟩
  obtain ⟨n2, hn2⟩ : ∃ n2, l2.length = n2 := ⟨_, rfl⟩
  rw [hn1, hn2] at h2 R1
  rw [hn2] at h1
  dsimp only
  rw [hn1, hn2]
  obtain ⟨y, hy⟩ : ∃ y, memberL (l1, l2) n = y := ⟨_, rfl⟩
  rw [hy]
  have HY := Lib.hid hy
  clear hn1 hn2 hy
  have d1 : decide ((n : Int) ≥ 0) = true := by simp
  go_enter Tryz.func11, Tryz.ntmps11
  go_wp2_with (first
    | (with_reducible refine wpList_unguard ?_ ?_ ?_
       rfl
       rfl)
    | (with_reducible refine at_oper (.box 36 (.tmp 0)) rfl ?_
       refine wpList_box_rowG w.heap.size rfl rfl 36 (.tmp 0) rfl #[.slice A1 n1 c1, .slice A2 n2 c2] rfl ?_
       intro w1 k1 b1 s1
       have H1 := Lib.hid (And.intro b1 k1)
       clear b1 k1 s1)
    | (with_reducible refine at_oper (.load 36 (.tmp 2)) rfl ?_
       first
       | refine wpList_load_blk rfl 36 (.tmp 2) rfl w.heap.size rfl 36 #[.slice A1 n1 c1, .slice A2 n2 c2] _ H2.out.2 Tryz.underlying36 rfl size36 ?_
       | refine wpList_load_blk rfl 36 (.tmp 2) rfl w.heap.size rfl 36 #[.slice A1 n1 c1, .slice A2 n2 c2] _ H1.out.2 Tryz.underlying36 rfl size36 ?_)
    | (go_at_call 25
       refine (lvalid_c A1 A2 n1 c1 n2 c2 h1 h2 w1).mono ?_
       rintro e w2 ⟨rfl, hb⟩
       have H2 := Lib.hid (And.intro (H1.out.1.trans (hb.mono H1.out.1.size)) (H1.out.2.old hb))
       clear hb)
    | (go_at_call 26
       refine (member_c K A1 A2 n1 c1 n2 c2 l1 l2 n hn h1 h2 w2 (R1.out.1.below H2.out.1) (R1.out.2.below H2.out.1)).mono ?_
       rw [HY.out]
       rintro e w3 ⟨rfl, hb⟩
       have H3 := Lib.hid (H2.out.1.trans (hb.mono H2.out.1.size))
       clear hb))
  go_ret
  exact ⟨rfl, H3.out⟩

def optI : Option Nat → Int
  | some k => (k : Int)
  | none => -1
set_option maxRecDepth 100000 in
set_option maxHeartbeats 1000000 in
theorem lleast_c (K : Nat → Prop) (v : Value) (l : List Bool × List Bool) (w : World) (hl : RG w K v l) : Calls Tryz.prog 10 #[v, vi 0] w fun e w' => e = .returned (.int .i64 (optI (leastL l (l.1.length + l.2.length) 0))) ∧ Below w.heap.size w w' := by
  obtain ⟨A1, c1, A2, c2, rfl, r1, r2⟩ := hl.ex
  have h1 := hl.pos
  have h2 := hl.top
  have R1 := Lib.hid (And.intro r1 r2)
  clear r1 r2 hl
  obtain ⟨l1, l2⟩ := l
  dsimp only at h1 h2 R1
  obtain ⟨n1, hn1⟩ : ∃ n1, l1.length = n1 := ⟨_, rfl⟩
  obtain ⟨n2, hn2⟩ : ∃ n2, l2.length = n2 := ⟨_, rfl⟩
  rw [hn1, hn2] at h2 R1
  rw [hn2] at h1
  dsimp only
  rw [hn1, hn2]
  obtain ⟨R, hR⟩ : ∃ R, leastL (l1, l2) (n1 + n2) 0 = R := ⟨_, rfl⟩
  rw [hR]
  have HR := Lib.hid hR
  clear hn1 hn2 hR
  go_enter Tryz.func10, Tryz.ntmps10
  go_upto_region 5 with (first
    | (with_reducible refine wpList_unguard ?_ ?_ ?_
       rfl
       rfl)
    | (with_reducible refine at_oper (.box 36 (.tmp 0)) rfl ?_
       refine wpList_box_rowG w.heap.size rfl rfl 36 (.tmp 0) rfl #[.slice A1 n1 c1, .slice A2 n2 c2] rfl ?_
       intro w1 k1 b1 s1
       have H1 := Lib.hid (And.intro b1 k1)
       clear b1 k1 s1)
    | (with_reducible refine at_oper (.load 36 (.tmp 2)) rfl ?_
       refine wpList_load_blk rfl 36 (.tmp 2) rfl w.heap.size rfl 36 #[.slice A1 n1 c1, .slice A2 n2 c2] _ H1.out.2 Tryz.underlying36 rfl size36 ?_)
    | (go_at_call 25
       refine (lvalid_c A1 A2 n1 c1 n2 c2 h1 h2 w1).mono ?_
       rintro e w2 ⟨rfl, hb⟩
       have H2 := Lib.hid (And.intro (H1.out.1.trans (hb.mono H1.out.1.size)) (H1.out.2.old hb))
       clear hb))
  go_loopw [5] (fun s5 wr => ∃ n : Nat, n ≤ n1 + n2 ∧ s5 = vi n ∧ Below w.heap.size w wr ∧ Blk wr w.heap.size 36 #[.slice A1 n1 c1, .slice A2 n2 c2] ∧ leastL (l1, l2) (n1 + n2 - n) n = R) (fun s5 _ => n1 + n2 - (intOf s5).toNat)
  case atStart => exact ⟨0, Nat.zero_le _, rfl, H2.out.1, H2.out.2, HR.out⟩
  case round =>
    clear H2
    obtain ⟨n, hn, rfl, hb, hk, hq⟩ := hrel
    have f0 : wr.cell? ⟨w.heap.size, 0, none⟩ = some (.slice A1 n1 c1) := hk.cell 0
    have f1 : wr.cell? ⟨w.heap.size, 1, none⟩ = some (.slice A2 n2 c2) := hk.cell 1
    have HK := Lib.hid (And.intro hb (And.intro hk hq))
    clear hb hk hq
    have hmx : max (0 : Int) (n1 : Int) = (n1 : Int) := by omega
    have hmx2 : max (n1 : Int) (0 : Int) = (n1 : Int) := by omega
    by_cases hlt : n < n1 + n2
    · have d1 : decide ((n : Int) < (n1 : Int) + (n2 : Int)) = true := by simp; omega
      obtain ⟨y, hy⟩ : ∃ y, memberL (l1, l2) n = y := ⟨_, rfl⟩
      have HY := Lib.hid hy
      have hm := member_c K A1 A2 n1 c1 n2 c2 l1 l2 n (by omega) h1 h2 wr (R1.out.1.below HK.out.1) (R1.out.2.below HK.out.1)
      rw [hy] at hm
      have HM := Lib.hid hm
      clear hy hm
      cases y with
      | true =>
        go_wp2_with (first
          | (with_reducible refine at_oper (.load 36 (.tmp 2)) rfl ?_
             refine wpList_load_blk rfl 36 (.tmp 2) rfl w.heap.size rfl 36 #[.slice A1 n1 c1, .slice A2 n2 c2] _ HK.out.2.1 Tryz.underlying36 rfl size36 ?_)
          | (go_at_call 26
             refine HM.out.mono ?_
             rintro e w3 ⟨rfl, hb⟩
             have H3 := Lib.hid (HK.out.1.trans (hb.mono HK.out.1.size))
             clear hb))
        go_ret
        refine ⟨?_, H3.out⟩
        have hq := HK.out.2.2
        rw [show n1 + n2 - n = (n1 + n2 - n - 1) + 1 by omega, leastL, if_pos HY.out] at hq
        rw [← hq]
        rfl
      | false =>
        go_wp2_with (first
          | (with_reducible refine at_oper (.load 36 (.tmp 2)) rfl ?_
             refine wpList_load_blk rfl 36 (.tmp 2) rfl w.heap.size rfl 36 #[.slice A1 n1 c1, .slice A2 n2 c2] _ HK.out.2.1 Tryz.underlying36 rfl size36 ?_)
          | (go_at_call 26
             refine HM.out.mono ?_
             rintro e w3 ⟨rfl, hb⟩
             have H3 := Lib.hid (And.intro (HK.out.1.trans (hb.mono HK.out.1.size)) (HK.out.2.1.old hb))
             clear hb))
        go_roundw
        case rel =>
          have hq := HK.out.2.2
          rw [show n1 + n2 - n = (n1 + n2 - (n + 1)) + 1 by omega, leastL, if_neg (by rw [HY.out]; simp)] at hq
          exact ⟨n + 1, by omega, by go_num, H3.out.1, H3.out.2, hq⟩
        case measure => simp [intOf]; omega
    · have d1 : decide ((n : Int) < (n1 : Int) + (n2 : Int)) = false := by simp; omega
      have hq := HK.out.2.2
      rw [show n1 + n2 - n = 0 by omega, leastL] at hq
      have HQ := Lib.hid hq
      clear hq
      go_wp2_with fail
      go_ret
      refine ⟨?_, HK.out.1⟩
      rw [← HQ.out]
      rfl
end Go.Proofs.YtjgkdfghjeodeaaGreatDoor
