/- Drawn regions by a script: at each place an operation that reads what S says, or one that alone is ready. -/
import Derived.Test.YtjgkdfghjeodeaaGreatDoorT2
import Derived.Test.YtjgkdfghjeodeaaGreatDoorT13
import Derived.Laws.StructEq
namespace Go.Proofs.YtjgkdfghjeodeaaGreatDoor
open Go.RowKit

theorem add0 (g j : Nat) : (⟨g, 0, none⟩ : Addr).add j = ⟨g, j, none⟩ := by unfold Addr.add; split <;> simp_all
section
variable {P : Program} {ops : Array Oper} {Q : Exit → Act → World → Prop} {md : Region.Mode} {S : World → Prop}
def WS (P : Program) (ops : Array Oper) (Q : Exit → Act → World → Prop) (S : World → Prop) (z : Nat) : Nat → List Bool → List Oper → Act → World → Prop
  | i, true :: f, o :: r, a, w => ∃ v, (∀ W, S W → (execOp a.eval o).run P W = .ok (.value v) W) ∧ WS P ops Q S z (i + 1) f r (a.put o.dst v) w
  | i, false :: f, o :: r, a, w => wpList P ops (segQ Q fun a' w' => (i < z → S w') ∧ WS P ops Q S z (i + 1) f r a' w') [o] a w
  | _, _, _, a, w => Q .normal a w
theorem ws_c {z i : Nat} {f : List Bool} {o : Oper} {r : List Oper} {a : Act} {w : World} (h : wpList P ops (segQ Q fun a' w' => (i < z → S w') ∧ WS P ops Q S z (i + 1) f r a' w') [o] a w) : WS P ops Q S z i (false :: f) (o :: r) a w := h
theorem ws_r {z i : Nat} {f : List Bool} {o : Oper} {r : List Oper} {a : Act} {w : World} (v : Value) (h1 : ∀ W, S W → (execOp a.eval o).run P W = .ok (.value v) W) (h2 : WS P ops Q S z (i + 1) f r (a.put o.dst v) w) : WS P ops Q S z i (true :: f) (o :: r) a w := ⟨v, h1, h2⟩
theorem ws_e {z i : Nat} {a : Act} {w : World} (h : Q .normal a w) : WS P ops Q S z i [] [] a w := h
def wsB (md : Region.Mode) (ops : Array Oper) (z : Nat) : Nat → List Bool → Array Bool → Bool
  | i, true :: f, listed => ((match ops[i]? with | some o => o.guard.isNone | none => false) && (Region.free md ops listed i && ((Region.ready md ops listed).contains i && (lateB2 md ops z i && decide (i ≤ z))))) && wsB md ops z (i + 1) f (listed.setIfInBounds i true)
  | i, false :: f, listed => decide (Region.ready md ops listed = [i]) && wsB md ops z (i + 1) f (listed.setIfInBounds i true)
  | _, [], listed => (Region.ready md ops listed).isEmpty
theorem ws_any {z : Nat} (hsel : Region.noSelect ops = true) (hQ : ∀ c (a : Act) d v w, Q (.panic c) (a.put d v) w → Q (.panic c) a w) :
    ∀ (f : List Bool) (l : List Oper) (i : Nat) (listed : Array Bool) (a : Act) (w : World), (∀ j, l[j]? = ops[i + j]?) → l.length = f.length → Shut md ops listed → wsB md ops z i f listed = true → (i ≤ z → S w) → WS P ops Q S z i f l a w → wpAnyD P md ops Q S z f.length listed a w
  | [], [], i, listed, a, w, _, _, _, hB, _, h => ⟨by simpa [wsB] using hB, by simpa [WS] using h⟩
  | [], _ :: _, _, _, _, _, _, hl, _, _, _, _ => by simp at hl
  | _ :: _, [], _, _, _, _, _, hl, _, _, _, _ => by simp at hl
  | true :: f, o :: r, i, listed, a, w, hops, hl, hsh, hB, hS, h => by
    have ho : ops[i]? = some o := by have := hops 0; simpa using this.symm
    rw [wsB, ho] at hB
    simp only [Bool.and_eq_true, decide_eq_true_eq] at hB
    obtain ⟨⟨hg, b1, b2, b3, b5⟩, b4⟩ := hB
    obtain ⟨v, hv, h⟩ := h
    have hrd : i ∈ Region.ready md ops listed := by simpa using b2
    have hgn : o.guard = none := by simpa using hg
    refine wpAnyD_first2 ho (Region.noSelect_spec hsel) (fun c a w => hQ c a _ _ w) b3 f.length listed a w hsh (Region.free_spec ho b1) hrd (.inl ⟨by simp [Region.wanted, hgn], hv⟩) (hS b5) ?_
    exact ws_any hsel hQ f r (i + 1) _ _ w (fun j => by have := hops (j + 1); simpa [Nat.add_assoc, Nat.add_comm 1 j] using this) (by simpa using hl) (hsh.put hrd) b4 (fun _ => hS b5) h
  | false :: f, o :: r, i, listed, a, w, hops, hl, hsh, hB, hS, h => by
    have ho : ops[i]? = some o := by have := hops 0; simpa using this.symm
    rw [wsB, Bool.and_eq_true, decide_eq_true_eq] at hB
    refine ⟨fun h0 => (by rw [hB.1] at h0; cases h0), fun j hj => ?_⟩
    have hrd : i ∈ Region.ready md ops listed := by rw [hB.1]; simp
    rw [hB.1] at hj
    obtain rfl : j = i := by simpa using hj
    have h2 : wpOp P ops (segQ Q fun a' w' => (j < z → S w') ∧ WS P ops Q S z (j + 1) f r a' w') j (fun a' w' => (j < z → S w') ∧ WS P ops Q S z (j + 1) f r a' w') a w := by
      unfold wpOp
      simp only [ho]
      exact h
    refine wpOp_mono (fun a' w' h' => ⟨fun hz => h'.1 hz, ?_⟩) (wpOp_seg h2)
    exact ws_any hsel hQ f r (j + 1) _ a' w' (fun k => by have := hops (k + 1); simpa [Nat.add_assoc, Nat.add_comm 1 k] using this) (by simpa using hl) (hsh.put hrd) hB.2 (fun hz => h'.1 (by omega)) h'.2
/-- **A drawn region by a script.** -/
theorem wp_region_ws {id : Nat} {a : Act} {w : World} {l : List Oper} (hm : P.follows .mixedOrders = true) (f : List Bool) (z : Nat) (S : World → Prop)
    (hB : (Region.noSelect l.toArray && (decide (l.length = f.length) && wsB .any l.toArray z 0 f (Array.replicate l.length false))) = true)
    (hQ : ∀ c (a : Act) d v w, Q (.panic c) (a.put d v) w → Q (.panic c) a w)
    (hS : S w.drew) (h : WS P l.toArray Q S z 0 f l a w.drew) : (Code.region id l.toArray true).wp P Q a w := by
  simp only [Bool.and_eq_true, decide_eq_true_eq] at hB
  obtain ⟨h1, h2, h3⟩ := hB
  have c1 := ws_any (md := .any) h1 hQ f l 0 _ a _ (fun j => by simp) h2 (shut_none _) h3 (fun _ => hS) h
  rw [← h2] at c1
  exact wp_region_any hm (by simpa using wpAny_of_D _ _ _ _ c1)
end
end Go.Proofs.YtjgkdfghjeodeaaGreatDoor
namespace Go.Proofs.YtjgkdfghjeodeaaGreatDoor
open Go.RowKit

def clB (a b : Nat) : Bool := (wd a 0 == wd b 0) && ((wd a 1 == wd b 1) && ((wd a 2 == wd b 2) && (wd a 3 == wd b 3)))
theorem clB_eq {a b : Nat} (ha : a < 2 ^ 256) (hb : b < 2 ^ 256) : clB a b = decide (a = b) := by
  rw [Bool.eq_iff_iff]
  simp only [clB, Bool.and_eq_true, beq_iff_eq, decide_eq_true_eq]
  constructor
  · rintro ⟨h0, h1, h2, h3⟩
    refine wd_ext ha hb fun i hi => ?_
    have : i = 0 ∨ i = 1 ∨ i = 2 ∨ i = 3 := by omega
    rcases this with rfl | rfl | rfl | rfl <;> assumption
  · rintro rfl
    exact ⟨rfl, rfl, rfl, rfl⟩
theorem nat_beq_int (a b : Nat) : ((a : Int) == (b : Int)) = (a == b) := by
  rw [Bool.eq_iff_iff, beq_iff_eq, beq_iff_eq]
  omega
theorem run_equalIn_class (d a b : Nat) (w : World) : (Op.equalIn (d + 2) 56 (.agg (ccells a)) (.agg (ccells b))).run Tryz.prog w = .ok (clB a b) w := by
  have hs : ∀ w, (sizeOf 54).run Tryz.prog w = .ok 1 w := fun w => by kernel_rfl
  have ha : ∀ w, (isAgg 54).run Tryz.prog w = .ok false w := fun w => by kernel_rfl
  have hp : ∀ (c i : Nat) (w : World), i < 4 → (part 54 (ccells c) i).run Tryz.prog w = .ok (vu (wd c i)) w := fun c i w hi => by
    have : i = 0 ∨ i = 1 ∨ i = 2 ∨ i = 3 := by omega
    rcases this with rfl | rfl | rfl | rfl <;> simp [part, ha, hs, ccells, Sem.run_bind, go_sem]
  have he : ∀ (x y : Nat) (w : World), (Op.equalIn (d + 1) 54 (vu x) (vu y)).run Tryz.prog w = .ok (x == y) w := fun x y w => by
    rw [run_equalIn_int w d 54 .u64 .u64 x y Tryz.underlying54, nat_beq_int]
  rw [show d + 2 = (d + 1) + 1 from rfl, Op.equalIn]
  simp only [Sem.run_bind, run_underlying Tryz.underlying56, Result.andThen_ok, hs, Nat.mul_one]
  rw [Std.Legacy.Range.forIn_eq_forIn_range', show List.range' [:4].start [:4].size [:4].step = [0, 1, 2, 3] from rfl]
  unfold clB
  simp only [List.forIn_cons, List.forIn_nil, Sem.run_bind, hp a _ _ (show 0 < 4 by decide), hp b _ _ (show 0 < 4 by decide), Result.andThen_ok, he]
  cases (wd a 0 == wd b 0)
  · simp [Result.andThen_ok]
  simp only [Bool.not_true, Bool.false_eq_true, if_false, Sem.run_pure, Sem.run_bind, hp a _ _ (show 1 < 4 by decide), hp b _ _ (show 1 < 4 by decide), Result.andThen_ok, he]
  cases (wd a 1 == wd b 1)
  · simp [Result.andThen_ok]
  simp only [Bool.not_true, Bool.false_eq_true, if_false, Sem.run_pure, Sem.run_bind, hp a _ _ (show 2 < 4 by decide), hp b _ _ (show 2 < 4 by decide), Result.andThen_ok, he]
  cases (wd a 2 == wd b 2)
  · simp [Result.andThen_ok]
  simp only [Bool.not_true, Bool.false_eq_true, if_false, Sem.run_pure, Sem.run_bind, hp a _ _ (show 3 < 4 by decide), hp b _ _ (show 3 < 4 by decide), Result.andThen_ok, he]
  cases (wd a 3 == wd b 3)
  · simp [Result.andThen_ok]
  simp [Result.andThen_ok]
theorem eqGuardZ : Tryz.prog.eqGuardType Tryz.prog.depth 56 = false := by kernel_rfl
/-- 'a == b' and 'a != b' at classes -/
theorem run_eql_class {o : Oper} {ρ : Operand → Value} {w : World} (x y : Operand) (ho : o.op = .binOp .eql 56 x y 56) (a b : Nat) (hx : ρ x = .agg (ccells a)) (hy : ρ y = .agg (ccells b)) : (execOp ρ o).run Tryz.prog w = .ok (.value (.bool (clB a b))) w := by
  unfold execOp
  simp only [ho, hx, hy, Sem.run_bind, Sem.run_pure, Result.andThen_ok, run_eqGuard_agg w .eql 56 x y _ _ eqGuardZ, run_eql_struct, show (10000 : Nat) = 9998 + 2 from rfl, run_equalIn_class]
theorem run_neq_class {o : Oper} {ρ : Operand → Value} {w : World} (x y : Operand) (ho : o.op = .binOp .neq 56 x y 56) (a b : Nat) (hx : ρ x = .agg (ccells a)) (hy : ρ y = .agg (ccells b)) : (execOp ρ o).run Tryz.prog w = .ok (.value (.bool (!clB a b))) w := by
  unfold execOp
  simp only [ho, hx, hy, Sem.run_bind, Sem.run_pure, Result.andThen_ok, run_eqGuard_agg w .neq 56 x y _ _ eqGuardZ, run_neq_struct, show (10000 : Nat) = 9998 + 2 from rfl, run_equalIn_class]
section
variable {w : World} {ops : Array Oper} {rest : List Oper} {o : Oper} {a : Act} {Q : Exit → Act → World → Prop}
theorem wpList_eql_class (hgd : o.guard = none) (x y : Operand) (ho : o.op = .binOp .eql 56 x y 56) (c d : Nat) (hx : a.eval x = .agg (ccells c)) (hy : a.eval y = .agg (ccells d)) (h : wpList Tryz.prog ops Q rest (a.put o.dst (.bool (clB c d))) w) : wpList Tryz.prog ops Q (o :: rest) a w := by
  refine wpList_plain hgd fun _ hK => ?_
  unfold Oper.wp
  rw [run_eql_class x y ho c d hx hy]
  exact hK _ _ h
theorem wpList_neq_class (hgd : o.guard = none) (x y : Operand) (ho : o.op = .binOp .neq 56 x y 56) (c d : Nat) (hx : a.eval x = .agg (ccells c)) (hy : a.eval y = .agg (ccells d)) (h : wpList Tryz.prog ops Q rest (a.put o.dst (.bool (!clB c d))) w) : wpList Tryz.prog ops Q (o :: rest) a w := by
  refine wpList_plain hgd fun _ hK => ?_
  unfold Oper.wp
  rw [run_neq_class x y ho c d hx hy]
  exact hK _ _ h
/-- a guard that is met is struck -/
theorem wpList_unguard {P : Program} (hg : o.guard.isSome = true) (hw : Region.wanted o (yielded ops a.tmps) = true) (h : wpList P ops Q ({ o with guard := none } :: rest) a w) : wpList P ops Q (o :: rest) a w := by
  obtain ⟨d, op, ty, ps, af, g⟩ := o
  unfold wpList at h ⊢
  rw [if_pos hw]
  rw [if_pos (by simp [Region.wanted])] at h
  exact h
end
end Go.Proofs.YtjgkdfghjeodeaaGreatDoor
namespace Go.Proofs.YtjgkdfghjeodeaaGreatDoor
open Go.RowKit

theorem fold_cells (off : Nat) : ∀ (l : List Value) (k : Nat) (Z : Array Value), off + k + l.length ≤ Z.size → (l.zipIdx k).foldl (fun cs (x : Value × Nat) => cs.setIfInBounds (off + x.2) x.1) Z = (Z.toList.take (off + k) ++ l ++ Z.toList.drop (off + k + l.length)).toArray
  | [], k, Z, _ => by simp
  | x :: r, k, Z, h => by
    rw [List.length_cons] at h
    rw [List.zipIdx_cons, List.foldl_cons, fold_cells off r (k + 1) _ (by simp; omega)]
    congr 1
    simp only [Array.toList_setIfInBounds, List.length_cons]
    have hk : off + k < Z.toList.length := by simp; omega
    rw [show off + (k + 1) = (off + k) + 1 by omega, List.take_add_one, List.getElem?_set_self hk, List.take_set, List.drop_set_of_lt (by omega)]
    rw [List.set_eq_of_length_le (by simp; omega)]
    simp only [Option.toList_some, List.append_assoc, List.cons_append, List.nil_append]
    rw [show off + k + 1 + r.length = off + k + (r.length + 1) by omega]
def z73 : Array Value := (List.replicate 257 (Value.int .i64 0) ++ [Value.slice none 0 0, Value.slice none 0 0]).toArray
theorem z73_eq : Tryz.zeroCells73 = z73 := by kernel_rfl
theorem info73z : (Tryz.prog.info? 73).bind (·.zero) = some (.agg Tryz.zeroCells73) := by kernel_rfl
def places73 : List (Nat × Nat) := [(0, 256), (256, 1), (257, 1), (258, 1)]
theorem built73_fill (parts : List (Nat × Value)) : Tryz.prog.built 73 parts = Instr.fill (places73.toArray[·]?) z73 parts := by
  have h1 : (Tryz.prog.fieldsOf 73).toList.mapM (fun f => (Tryz.prog.info? f.type).map fun i => (f.offset, i.size)) = some places73 := by kernel_rfl
  have h2 : Tryz.prog.underlying 73 = some (.struct (Tryz.prog.fieldsOf 73)) := by kernel_rfl
  unfold Program.built
  rw [h2]
  cases hi : Tryz.prog.info? 73 with
  | none => have := info73z; rw [hi] at this; cases this
  | some it =>
    have hz := info73z
    rw [hi] at hz
    simp only [Option.bind_some] at hz
    simp only [hz, h1]
    rw [← z73_eq]
    rfl
theorem z73_size' : z73.size = 259 := by decide +kernel
theorem z73_drop : z73.toList.drop 256 = [Value.int .i64 0, Value.slice none 0 0, Value.slice none 0 0] := by kernel_rfl
theorem built73 (V : Array Value) (hV : V.size = 256) (n : Nat) : Tryz.prog.built 73 [(0, .agg V), (1, vi n)] = some (V.toList ++ [vi n, .slice none 0 0, .slice none 0 0]).toArray := by
  rw [built73_fill]
  have hl : V.toList.length = 256 := by simpa using hV
  have hf := fold_cells 0 V.toList 0 z73 (by rw [hl, z73_size']; decide)
  rw [hl, Nat.zero_add, Nat.zero_add, z73_drop, List.take_zero, List.nil_append] at hf
  have e1 : (V.zipIdx.foldl (fun (cs : Array Value) (x : Value × Nat) => cs.setIfInBounds (0 + x.2) x.1) z73) = (V.toList ++ [Value.int .i64 0, Value.slice none 0 0, Value.slice none 0 0]).toArray := by
    rw [← hf, ← Array.foldl_toList, Array.toList_zipIdx]
  have p0 : (places73.toArray[0]?) = some (0, 256) := rfl
  have p1 : (places73.toArray[1]?) = some (256, 1) := rfl
  unfold Instr.fill
  rw [p0]
  simp only [Value.cells, hV, z73_size']
  rw [if_neg (by decide)]
  have e2 : (Array.foldl (fun (cs : Array Value) (x : Value × Nat) => cs.setIfInBounds (0 + x.2) x.1) z73 V.zipIdx 0 V.zipIdx.size) = (V.toList ++ [Value.int .i64 0, Value.slice none 0 0, Value.slice none 0 0]).toArray := e1
  have e3 : ∀ Y : Array Value, Y = (V.toList ++ [Value.int .i64 0, Value.slice none 0 0, Value.slice none 0 0]).toArray → Instr.fill (fun i => places73.toArray[i]?) Y [(1, vi n)] = some (V.toList ++ [vi n, .slice none 0 0, .slice none 0 0]).toArray := by
    rintro Y rfl
    simp only [Instr.fill, p1, Value.cells]
    simp only [List.size_toArray, List.length_append, hl, List.length_cons, List.length_nil]
    rw [if_neg (by decide)]
    simp [Array.zipIdx, hV, List.set_append_right]
  exact e3 _ e2
theorem wpList_build73 {w : World} {ops : Array Oper} {rest : List Oper} {o : Oper} {a : Act} {Q : Exit → Act → World → Prop} (hgd : o.guard = none) (x y : Operand) (ho : o.op = .build 73 #[(0, x), (1, y)]) (V : Array Value) (cellL : List Nat) (n : Nat) (hx : a.eval x = .agg V) (hy : a.eval y = vi n) (hV : via cellL = V) (hl : cellL.length = 256)
    (h : ∀ X : Array Value, X = tcells ⟨cellL, n, [], []⟩ none none 0 0 → X.size = 259 → X.all (·.oneCell') = true → wpList Tryz.prog ops Q rest (a.put o.dst (.agg X)) w) : wpList Tryz.prog ops Q (o :: rest) a w := by
  have hVs : V.size = 256 := by rw [← hV, via_size, hl]
  have e : (V.toList ++ [vi n, Value.slice none 0 0, Value.slice none 0 0]).toArray = tcells ⟨cellL, n, [], []⟩ none none 0 0 := by rw [← hV, via_list]; rfl
  refine wpList_build_row hgd 73 #[(0, x), (1, y)] ho _ [(0, .agg V), (1, vi n)] (by simp only [List.map_toArray, List.map_cons, List.map_nil, hx, hy]) (built73 V hVs n) (h _ e ?_ ?_)
  · rw [e]; simp [tcells, vis_len, hl]
  · rw [e]; exact tcells_one ..
end Go.Proofs.YtjgkdfghjeodeaaGreatDoor
namespace Go.Proofs.YtjgkdfghjeodeaaGreatDoor
open Go.RowKit

/-- a table in a cell of its own -/
structure TC (W : World) (g : Nat) (t : Tbl) : Prop where
  ex : ∃ cs, Blk W g 73 cs ∧ RT W TT cs t
  wt : WT t
theorem TC.below {W W' : World} {g : Nat} {t : Tbl} (h : TC W g t) (hb : Below W.heap.size W W') : TC W' g t := by
  obtain ⟨cs, h1, h2⟩ := h.ex
  exact ⟨⟨cs, h1.old hb, h2.below hb⟩, h.wt⟩
/-- what is read for a step -/
def NF (W : World) (g p b n c1 C c2 c v : Nat) (ax ar : Addr) : Prop :=
  W.cell? ⟨g, 257, none⟩ = some (.slice (some ax) n c1) ∧ W.cell? (ax.add p) = some (.slice (some ar) C c2) ∧ W.cell? ⟨g, b, none⟩ = some (vi c) ∧ W.cell? (ar.add c) = some (vi v)
theorem TC.next {W : World} {g : Nat} {t : Tbl} (h : TC W g t) {p b : Nat} (hp : p < t.nxt.length) (hb : b < 256) :
    ∃ n c1 C c2 c v ax ar, NF W g p b n c1 C c2 c v ax ar ∧ p < n ∧ c < C ∧ (t.nxt.getD p []).getD (t.cell.getD b 0) 0 = v ∧ v < t.nxt.length ∧ v < 9223372036854775808 ∧ n < 9223372036854775808 ∧ C < 9223372036854775808 := by
  obtain ⟨cs, h1, h2⟩ := h.ex
  obtain ⟨A2, A3, c2, c3, hcs, hrr, hrl, hcl, hce, hlt⟩ := tab_fields h2
  obtain ⟨ad, A', c', rfl, _, hc, hrow⟩ := hrr.at_ hp
  have hr := h.wt.row _ (getD_mem' (d := []) hp)
  have hcb : t.cell.getD b 0 < (t.nxt.getD p []).length := by
    rw [hr.1]
    exact getD_lt h.wt.cl (by rw [hcl]; exact hb)
  obtain ⟨ar, rfl, _, hv⟩ := hrow.at_ hcb
  have hvl : (t.nxt.getD p []).getD (t.cell.getD b 0) 0 < t.nxt.length := hr.2 _ (getD_mem' hcb)
  have := h.wt.top
  refine ⟨_, _, _, _, _, _, ad, ar, ⟨(h1.cell 257).trans (by rw [hcs, tcells_257 hcl]), hc, (h1.cell b).trans (by rw [hcs]; exact tcells_at hcl hb), hv⟩, hp, hcb, rfl, hvl, by omega, by omega, ?_⟩
  have := hrow.big
  omega
/-- what is read of the accepting states -/
def AF (W : World) (g p n c1 : Nat) (x : Bool) (ax : Addr) : Prop := W.cell? ⟨g, 258, none⟩ = some (.slice (some ax) n c1) ∧ W.cell? (ax.add p) = some (.bool x)
theorem TC.acc {W : World} {g : Nat} {t : Tbl} (h : TC W g t) {p : Nat} (hp : p < t.nxt.length) : ∃ n c1 x ax, AF W g p n c1 x ax ∧ p < n ∧ t.acc.getD p false = x ∧ n < 9223372036854775808 := by
  obtain ⟨cs, h1, h2⟩ := h.ex
  obtain ⟨A2, A3, c2, c3, hcs, hrr, hrl, hcl, hce, hlt⟩ := tab_fields h2
  have hp' : p < t.acc.length := by rw [h.wt.acc]; exact hp
  obtain ⟨ad, rfl, _, hc⟩ := hrl.at_ hp'
  have := h.wt.top
  have := h.wt.acc
  exact ⟨_, _, _, ad, ⟨(h1.cell 258).trans (by rw [hcs, tcells_258 hcl]), hc⟩, hp', rfl, by omega⟩
end Go.Proofs.YtjgkdfghjeodeaaGreatDoor
namespace Go.Proofs.YtjgkdfghjeodeaaGreatDoor
open Go.Proofs.Orb

/-- a step of an automaton -/
def EdgeD (d : Dfa) (s t : Nat) : Prop := t ∈ d.nxt.getD s []
theorem edge_lt {d : Dfa} (h : VD d) (s t : Nat) (he : EdgeD d s t) : t < d.nxt.length := by
  unfold EdgeD at he
  by_cases hs : s < d.nxt.length
  · exact (h.row _ (getD_mem' hs)).2 t he
  · rw [List.getD_eq_getElem?_getD, List.getElem?_eq_none (by omega)] at he
    cases he
/-- it has a word of n bytes -/
def HasLen (d : Dfa) (n : Nat) : Prop := ∃ t, Walk (EdgeD d) n 0 t ∧ d.acc.getD t false = true
theorem walk_lt {d : Dfa} (h : VD d) {n t : Nat} (hw : Walk (EdgeD d) n 0 t) : t < d.nxt.length := hw.lt (edge_lt h) (by have := h.pos; omega)
theorem walk_snoc {E : Nat → Nat → Prop} {n u t : Nat} : Walk E (n + 1) u t ↔ ∃ v, Walk E n u v ∧ E v t := by
  constructor
  · intro h
    obtain ⟨v, h1, h2⟩ := h.split
    cases h2 with
    | cons e r =>
      have := r.zero
      subst this
      exact ⟨v, h1, e⟩
  · rintro ⟨v, h1, h2⟩
    exact h1.trans (.cons h2 (.nil t))

def folRow : List Nat → Nat → Nat
  | [], o => o
  | t :: r, o => folRow r (o ||| 2 ^ t)
def folD (d : Dfa) : List Nat := d.nxt.map fun r => folRow r 0
def accMask (acc : List Bool) : Nat → Nat
  | 0 => 0
  | s + 1 => if acc.getD s false then accMask acc s ||| 2 ^ s else accMask acc s
def accM (d : Dfa) : Nat := accMask d.acc d.nxt.length
def stepL (fol : List Nat) : List Nat → Nat → Nat
  | [], o => o
  | q :: r, o => stepL fol r (o ||| fol.getD q 0)
def stepM (fol : List Nat) (S : Nat) : Nat := stepL fol (memW S) 0
def setAt (fol : List Nat) : Nat → Nat
  | 0 => 1
  | n + 1 => stepM fol (setAt fol n)
/-- is there a word of n bytes? -/
def lenF (d : Dfa) (n : Nat) : Bool := setAt (folD d) n &&& accM d != 0

theorem folRow_bit (t : Nat) : ∀ (r : List Nat) (o : Nat), (folRow r o).testBit t = (o.testBit t || decide (t ∈ r))
  | [], o => by simp [folRow]
  | x :: r, o => by
    rw [folRow, folRow_bit t r, Nat.testBit_or, Nat.testBit_two_pow]
    by_cases h : x = t
    · subst h; simp
    · simp [h, Ne.symm h]
theorem stepL_bit (fol : List Nat) (t : Nat) : ∀ (l : List Nat) (o : Nat), (stepL fol l o).testBit t = (o.testBit t || l.any fun q => (fol.getD q 0).testBit t)
  | [], o => by simp [stepL]
  | x :: r, o => by
    rw [stepL, stepL_bit fol t r, Nat.testBit_or, List.any_cons, Bool.or_assoc]
theorem accMask_bit (acc : List Bool) (t : Nat) : ∀ n, (accMask acc n).testBit t = (decide (t < n) && acc.getD t false)
  | 0 => by simp [accMask]
  | n + 1 => by
    rw [accMask]
    have ih := accMask_bit acc t n
    by_cases h : t = n
    · subst h
      cases hx : acc.getD t false with
      | true => simp
      | false => simp [ih]
    · have e : decide (t < n + 1) = decide (t < n) := by
        by_cases h2 : t < n
        · simp [h2]; omega
        · simp [h2]; omega
      rw [e, ← ih]
      split
      · rw [Nat.testBit_or, Nat.testBit_two_pow]; simp [Ne.symm h]
      · rfl
theorem accM_bit {d : Dfa} (h : VD d) (t : Nat) : (accM d).testBit t = d.acc.getD t false := by
  unfold accM
  rw [accMask_bit]
  by_cases ht : t < d.nxt.length
  · simp [ht]
  · have := h.acc
    rw [List.getD_eq_getElem?_getD, List.getElem?_eq_none (by omega)]
    simp [ht]
theorem folD_bit {d : Dfa} (s t : Nat) : ((folD d).getD s 0).testBit t = true ↔ EdgeD d s t := by
  unfold folD EdgeD
  by_cases hs : s < d.nxt.length
  · rw [List.getD_eq_getElem?_getD, List.getElem?_map, List.getElem?_eq_getElem hs, List.getD_eq_getElem?_getD, List.getElem?_eq_getElem hs]
    simp [folRow_bit]
  · rw [List.getD_eq_getElem?_getD, List.getElem?_map, List.getElem?_eq_none (by omega), List.getD_eq_getElem?_getD, List.getElem?_eq_none (by omega)]
    simp
theorem memW_mem {x q : Nat} : q ∈ memW x ↔ q < 64 ∧ x.testBit q = true := by unfold memW; rw [List.mem_filter, List.mem_range]
theorem setAt_bit {d : Dfa} (h : VD d) : ∀ n t, (setAt (folD d) n).testBit t = true ↔ Walk (EdgeD d) n 0 t
  | 0, t => by
    rw [setAt, show (1 : Nat) = 2 ^ 0 from rfl, Nat.testBit_two_pow]
    constructor
    · intro e
      have : 0 = t := by simpa using e
      subst this; exact .nil 0
    · intro w; simp [w.zero]
  | n + 1, t => by
    rw [setAt, stepM, stepL_bit, walk_snoc]
    simp only [Nat.zero_testBit, Bool.false_or, List.any_eq_true]
    constructor
    · rintro ⟨q, hq, hb⟩
      exact ⟨q, (setAt_bit h n q).1 (memW_mem.1 hq).2, folD_bit q t |>.1 hb⟩
    · rintro ⟨v, hv, he⟩
      have := walk_lt h hv
      have := h.top
      exact ⟨v, memW_mem.2 ⟨by omega, (setAt_bit h n v).2 hv⟩, (folD_bit v t).2 he⟩
theorem folRow_lt : ∀ (r : List Nat) (o : Nat), o < 2 ^ 64 → (∀ x ∈ r, x < 64) → folRow r o < 2 ^ 64
  | [], o, h, _ => h
  | x :: r, o, h, hr => folRow_lt r _ (Nat.or_lt_two_pow h (Nat.pow_lt_pow_right (by decide) (hr x List.mem_cons_self))) fun y hy => hr y (List.mem_cons_of_mem _ hy)
theorem folD_lt {d : Dfa} (h : VD d) (q : Nat) : (folD d).getD q 0 < 2 ^ 64 := by
  by_cases hq : q < d.nxt.length
  · unfold folD
    rw [List.getD_eq_getElem?_getD, List.getElem?_map, List.getElem?_eq_getElem hq]
    have := h.top
    exact folRow_lt _ _ (by decide) fun x hx => by have := (h.row _ (List.getElem_mem hq)).2 x hx; omega
  · unfold folD
    rw [List.getD_eq_getElem?_getD, List.getElem?_map, List.getElem?_eq_none (by omega)]
    decide
theorem stepL_lt {fol : List Nat} (hf : ∀ q, fol.getD q 0 < 2 ^ 64) : ∀ (l : List Nat) (o : Nat), o < 2 ^ 64 → stepL fol l o < 2 ^ 64
  | [], _, h => h
  | q :: r, _, h => stepL_lt hf r _ (Nat.or_lt_two_pow h (hf q))
theorem stepM_lt {fol : List Nat} (hf : ∀ q, fol.getD q 0 < 2 ^ 64) (S : Nat) : stepM fol S < 2 ^ 64 := stepL_lt hf _ _ (by decide)
theorem setAt_lt {d : Dfa} (h : VD d) : ∀ n, setAt (folD d) n < 2 ^ 64
  | 0 => by rw [setAt]; decide
  | n + 1 => stepM_lt (folD_lt h) _
theorem lenF_iff {d : Dfa} (h : VD d) (n : Nat) : lenF d n = true ↔ HasLen d n := by
  unfold lenF HasLen
  rw [bne_iff_ne]
  constructor
  · intro hne
    obtain ⟨t, ht⟩ := Nat.exists_testBit_of_ne_zero hne
    rw [Nat.testBit_and, Bool.and_eq_true, accM_bit h] at ht
    exact ⟨t, (setAt_bit h n t).1 ht.1, ht.2⟩
  · rintro ⟨t, hw, ha⟩ h0
    have : (setAt (folD d) n &&& accM d).testBit t = true := by rw [Nat.testBit_and, (setAt_bit h n t).2 hw, accM_bit h, ha]; rfl
    rw [h0] at this
    simp at this
theorem setAt_same {d : Dfa} (h : VD d) {i j : Nat} (hs : Same (EdgeD d) 0 i j) : setAt (folD d) i = setAt (folD d) j := by
  refine Nat.eq_of_testBit_eq fun t => ?_
  rw [Bool.eq_iff_iff, setAt_bit h, setAt_bit h]
  exact hs t
/-- the sets come again in time -/
theorem orb_bound {d : Dfa} (h : VD d) {m : Nat} (hd : ∀ i j, i < j → j < m → setAt (folD d) i ≠ setAt (folD d) j) : m ≤ 20000000000 := by
  obtain ⟨i, j, h1, h2, hs⟩ := orbit (N := d.nxt.length) (u := 0) (edge_lt h) (by have := h.pos; omega) h.top
  by_cases hm : j < m
  · exact absurd (setAt_same h hs) (hd i j h1 hm)
  · omega
theorem setAt_add {fol : List Nat} {a b : Nat} (h : setAt fol a = setAt fol b) : ∀ k, setAt fol (a + k) = setAt fol (b + k)
  | 0 => h
  | k + 1 => by rw [← Nat.add_assoc, ← Nat.add_assoc, setAt, setAt, setAt_add h k]
theorem lenF_per {d : Dfa} {a p : Nat} (h : setAt (folD d) (a + p) = setAt (folD d) a) (n : Nat) (hn : a ≤ n) : lenF d (n + p) = lenF d n := by
  unfold lenF
  have := setAt_add h (n - a)
  rw [show a + p + (n - a) = n + p by omega, show a + (n - a) = n by omega] at this
  rw [this]

/-! ### periodic sets -/
def perL (cyc : List Bool) (p : Nat) : Nat → Nat → Nat
  | 0, _ => p
  | f + 1, q => if q < p then (if p % q = 0 ∧ cyc.drop q = cyc.take (p - q) then q else perL cyc p f (q + 1)) else p
def shrinkL (all : List Bool) (p : Nat) : Nat → Nat
  | 0 => 0
  | h + 1 => if all.getD h false = all.getD (h + p) false then shrinkL all p h else h + 1
/-- the canonical form; none: it is too large -/
def canonL (all : List Bool) (h p : Nat) : Option (List Bool × List Bool) :=
  if 512 < shrinkL all (perL (all.drop h) p p 1) h + perL (all.drop h) p p 1 then none
  else some (all.take (shrinkL all (perL (all.drop h) p p 1) h), (all.drop (shrinkL all (perL (all.drop h) p p 1) h)).take (perL (all.drop h) p p 1))
def memberL (l : List Bool × List Bool) (n : Nat) : Bool := if n < l.1.length then l.1.getD n false else l.2.getD ((n - l.1.length) % l.2.length) false

theorem perL_spec (cyc : List Bool) (p : Nat) (hp : 0 < p) : ∀ (f q : Nat), 1 ≤ q → 1 ≤ perL cyc p f q ∧ perL cyc p f q ≤ p ∧ p % perL cyc p f q = 0 ∧ cyc.drop (perL cyc p f q) = cyc.take (p - perL cyc p f q) ∨ perL cyc p f q = p
  | 0, q, _ => .inr rfl
  | f + 1, q, hq => by
    rw [perL]
    split
    · split
      · rename_i h1 h2
        exact .inl ⟨hq, by omega, h2⟩
      · exact perL_spec cyc p hp f (q + 1) (by omega)
    · exact .inr rfl
section
variable {f : Nat → Bool} {h p : Nat}
theorem range_getD (m n : Nat) (hn : n < m) : ((List.range m).map f).getD n false = f n := by
  rw [List.getD_eq_getElem?_getD, List.getElem?_map, List.getElem?_range hn]; rfl
theorem per_mod (hper : ∀ n, h ≤ n → f (n + p) = f n) : ∀ (k i : Nat), f (h + i + p * k) = f (h + i)
  | 0, i => rfl
  | k + 1, i => by
    rw [Nat.mul_succ, ← Nat.add_assoc, hper _ (by omega), per_mod hper k i]
theorem per_mod' (hper : ∀ n, h ≤ n → f (n + p) = f n) (i : Nat) : f (h + i) = f (h + i % p) := by
  have := per_mod hper (i / p) (i % p)
  rw [Nat.add_assoc, Nat.mod_add_div] at this
  exact this
theorem down_q {q : Nat} (hq : 1 ≤ q) (he : ∀ i, i + q < p → f (h + (i + q)) = f (h + i)) : ∀ r, r < p → f (h + r) = f (h + r % q) := by
  intro r
  induction r using Nat.strongRecOn with
  | _ r ih =>
    intro hr
    by_cases hlt : r < q
    · rw [Nat.mod_eq_of_lt hlt]
    · have h1 := he (r - q) (by omega)
      rw [show r - q + q = r by omega] at h1
      rw [h1, ih (r - q) (by omega) (by omega)]
      rw [Nat.mod_eq_sub_mod (by omega : r ≥ q)]
theorem per_q {q : Nat} (hp : 0 < p) (hper : ∀ n, h ≤ n → f (n + p) = f n) (hq : 1 ≤ q) (hd : p % q = 0) (he : ∀ i, i + q < p → f (h + (i + q)) = f (h + i)) : ∀ n, h ≤ n → f (n + q) = f n := by
  have key : ∀ i, f (h + i) = f (h + i % q) := fun i => by
    rw [per_mod' hper i, down_q hq he (i % p) (Nat.mod_lt _ hp), Nat.mod_mod_of_dvd _ (Nat.dvd_of_mod_eq_zero hd)]
  intro n hn
  obtain ⟨i, rfl⟩ : ∃ i, n = h + i := ⟨n - h, by omega⟩
  rw [Nat.add_assoc, key (i + q), key i, Nat.add_mod_right]
theorem shrink_spec {q : Nat} (m : Nat) : ∀ h, h + q ≤ m → (∀ n, h ≤ n → f (n + q) = f n) → shrinkL ((List.range m).map f) q h ≤ h ∧ ∀ n, shrinkL ((List.range m).map f) q h ≤ n → f (n + q) = f n
  | 0, _, hper => ⟨Nat.le_refl _, hper⟩
  | h + 1, hm, hper => by
    rw [shrinkL]
    split
    · rename_i he
      rw [range_getD _ _ (by omega), range_getD _ _ (by omega)] at he
      have ih := shrink_spec (q := q) m h (by omega) fun n hn => by
        rcases Nat.lt_or_ge h n with h1 | h1
        · exact hper n h1
        · rw [show n = h by omega, ← he]
      exact ⟨by omega, ih.2⟩
    · exact ⟨Nat.le_refl _, hper⟩
/-- **the canonical form has the members** -/
theorem canon_spec (hp : 0 < p) (hper : ∀ n, h ≤ n → f (n + p) = f n) {l : List Bool × List Bool} (hl : canonL ((List.range (h + p)).map f) h p = some l) :
    1 ≤ l.2.length ∧ l.1.length + l.2.length ≤ 512 ∧ (∀ n, memberL l n = f n) ∧ ∀ n, l.1.length ≤ n → f (n + l.2.length) = f n := by
  have hdr : ∀ i, i < p → (((List.range (h + p)).map f).drop h)[i]? = some (f (h + i)) := fun i hi => by
    rw [List.getElem?_drop, List.getElem?_map, List.getElem?_range (by omega)]; rfl
  have hq := perL_spec (((List.range (h + p)).map f).drop h) p hp p 1 (by omega)
  unfold canonL at hl
  generalize perL (((List.range (h + p)).map f).drop h) p p 1 = q at hl hq
  have hq2 : 1 ≤ q ∧ q ≤ p ∧ p % q = 0 ∧ ∀ i, i + q < p → f (h + (i + q)) = f (h + i) := by
    rcases hq with ⟨h1, h2, h3, h4⟩ | rfl
    · refine ⟨h1, h2, h3, fun i hi => ?_⟩
      have e1 : ((((List.range (h + p)).map f).drop h).drop q)[i]? = some (f (h + (i + q))) := by rw [List.getElem?_drop, hdr _ (by omega), Nat.add_comm q i]
      have e2 : ((((List.range (h + p)).map f).drop h).take (p - q))[i]? = some (f (h + i)) := by rw [List.getElem?_take_of_lt (by omega), hdr _ (by omega)]
      rw [h4, e2] at e1
      injection e1 with e1
      exact e1.symm
    · exact ⟨hp, Nat.le_refl _, Nat.mod_self q, fun i hi => by omega⟩
  have hperq := per_q hp hper hq2.1 hq2.2.2.1 hq2.2.2.2
  have hsh := shrink_spec (f := f) (q := q) (h + p) h (by omega) hperq
  generalize shrinkL ((List.range (h + p)).map f) q h = k at hl hsh
  split at hl
  · cases hl
  · rename_i h512
    injection hl with hl
    subst hl
    have l1 : (((List.range (h + p)).map f).take k).length = k := by simp; omega
    have l2 : ((((List.range (h + p)).map f).drop k).take q).length = q := by simp; omega
    refine ⟨by dsimp only; omega, by dsimp only; omega, fun n => ?_, fun n hn => ?_⟩
    · unfold memberL
      dsimp only
      rw [l1, l2]
      split
      · rename_i hn
        rw [List.getD_eq_getElem?_getD, List.getElem?_take_of_lt hn, List.getElem?_map, List.getElem?_range (by omega)]; rfl
      · rename_i hn
        have hm : (n - k) % q < q := Nat.mod_lt _ (by omega)
        rw [List.getD_eq_getElem?_getD, List.getElem?_take_of_lt hm, List.getElem?_drop, List.getElem?_map, List.getElem?_range (by omega)]
        have := per_mod' (h := k) (p := q) hsh.2 (n - k)
        rw [show k + (n - k) = n by omega] at this
        exact this.symm
    · dsimp only at hn ⊢
      rw [l1] at hn
      rw [l2]
      exact hsh.2 n hn
end
/-- the least member -/
def leastL (l : List Bool × List Bool) : Nat → Nat → Option Nat
  | 0, _ => none
  | f + 1, n => if memberL l n then some n else leastL l f (n + 1)
theorem leastL_spec (l : List Bool × List Bool) : ∀ (f n : Nat), match leastL l f n with
    | none => ∀ i, n ≤ i → i < n + f → memberL l i = false
    | some k => memberL l k = true ∧ n ≤ k ∧ k < n + f ∧ ∀ i, n ≤ i → i < k → memberL l i = false
  | 0, n => by
    rw [leastL]
    intro i h1 h2; omega
  | f + 1, n => by
    rw [leastL]
    cases hm : memberL l n with
    | true => exact ⟨hm, Nat.le_refl _, by omega, fun i h1 h2 => by omega⟩
    | false =>
      have ih := leastL_spec l f (n + 1)
      simp only [Bool.false_eq_true, if_false]
      cases hk : leastL l f (n + 1) with
      | none =>
        rw [hk] at ih
        intro i h1 h2
        rcases Nat.lt_or_ge n i with h | h
        · exact ih i h (by omega)
        · rw [show i = n by omega]; exact hm
      | some k =>
        rw [hk] at ih
        obtain ⟨a1, a2, a3, a4⟩ := ih
        refine ⟨a1, by omega, by omega, fun i h1 h2 => ?_⟩
        rcases Nat.lt_or_ge n i with h | h
        · exact a4 i h h2
        · rw [show i = n by omega]; exact hm
end Go.Proofs.YtjgkdfghjeodeaaGreatDoor
