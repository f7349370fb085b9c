/- rewrite: operations, Do at OpUpper. -/
import Derived.Test.YtjgkdfghjeodeaaGreatDoorT43
import Derived.Test.YtjgkdfghjeodeaaGreatDoorT46
namespace Go.Proofs.YtjgkdfghjeodeaaGreatDoor
open Go.RowKit

abbrev fn0 (f : FuncId) : Value := .func (.func f) #[] #[]
theorem built86f (v : Addr) : Tryz.prog.built 86 [(0, .func (.func 58) #[] #[.pointer (some v)])] = some #[.func (.func 58) #[] #[.pointer (some v)]] := by kernel_rfl
theorem size86 : (Tryz.prog.info? 86).map (·.size) = some 1 := by kernel_rfl
theorem zero86 (w : World) : (zeroValue 86).run Tryz.prog w = .ok (.agg #[.nilFunc]) w := by kernel_rfl
set_option maxRecDepth 100000 in
set_option maxHeartbeats 2000000 in
theorem each57_c (f : FuncId) (w : World) : Calls Tryz.prog 57 #[fn0 f] w fun e w' => ∃ g, e = .returned (.agg #[.func (.func 58) #[] #[.pointer (some ⟨g, 0, none⟩)]]) ∧ w'.cell? ⟨g, 0, none⟩ = some (fn0 f) ∧ w.heap.size ≤ g ∧ Below w.heap.size w w' := by
  have hmf : ∀ (fn : Fn) (first cap : Array Value) (w : World), (Instr.makeFunc fn first cap).run Tryz.prog w = .ok (.func fn first cap) w := fun _ _ _ _ => rfl
  have hbf := built86f
  go_enter Tryz.func57, Tryz.ntmps57
  go_wp2_with (first
    | (with_reducible refine at_oper (.alloc 86) rfl ?_
       have k1 := Blk.new w 113 #[fn0 f]
       have b1 : Below w.heap.size w (w.alloc (.cells #[fn0 f] 113)) := (Below.refl _ _).alloc (Nat.le_refl _) _
       have z1 : (w.alloc (.cells #[fn0 f] 113)).heap.size = w.heap.size + 1 := by simp
       generalize w.alloc (.cells #[fn0 f] 113) = w1 at *
       refine wpList_alloc_rowG (w.heap.size + 1) z1 rfl 86 rfl _ zero86 ?_
       intro w2 k2 b2 s2
       have H2 := Lib.hid (show Below w.heap.size w w2 ∧ Blk w2 w.heap.size 113 #[fn0 f] ∧ Blk w2 (w.heap.size + 1) 86 #[.nilFunc] from ⟨b1.trans (b2.mono (by omega)), k1.old (z1 ▸ b2), k2⟩)
       clear k1 b1 z1 k2 b2 s2)
    | (with_reducible refine at_oper (.store 86 (.tmp 2) (.tmp 4)) rfl ?_
       refine wpList_store_blk rfl 86 (.tmp 2) (.tmp 4) rfl rfl (w.heap.size + 1) #[.func (.func 58) #[] #[.pointer (some ⟨w.heap.size, 0, none⟩)]] _ 86 rfl rfl H2.out.2.2 size86 rfl (by simp [Value.oneCell']) ?_
       intro w5 k5 o5
       have H5 := Lib.hid (show Below w.heap.size w w5 ∧ Blk w5 w.heap.size 113 #[fn0 f] ∧ Blk w5 (w.heap.size + 1) 86 #[.func (.func 58) #[] #[.pointer (some ⟨w.heap.size, 0, none⟩)]] from ⟨below_only H2.out.1 o5 (by omega), H2.out.2.1.only o5 (by omega), k5⟩)
       clear k5 o5))
  refine bodyPost_ret (results_cell rfl _ _ (w.heap.size + 1) rfl 86 _ H5.out.2.2 Tryz.underlying86 rfl size86) rfl ?_
  exact ⟨w.heap.size, rfl, H5.out.2.1.cell 0, Nat.le_refl _, H5.out.1⟩
/-- a map of numbers to values that is known whole -/
def MPE (es : List MapEntry) (ks : List (Nat × Value)) : Prop := es.map (fun e => (e.key, e.val)) = ks.map fun p => (vi p.1, p.2)
def MP (w : World) (b : Nat) (ks : List (Nat × Value)) : Prop := ∃ es cl, w.heap[b]? = some (.map es cl) ∧ MPE es.toList ks
theorem MP.lt {w : World} {b : Nat} {ks : List (Nat × Value)} (h : MP w b ks) : b < w.heap.size := by
  obtain ⟨es, cl, h1, _⟩ := h
  exact (Array.getElem?_eq_some_iff.1 h1).1
theorem MP.below {w w' : World} {b : Nat} {ks : List (Nat × Value)} (h : MP w b ks) (hb : Below w.heap.size w w') : MP w' b ks := by
  have hlt := h.lt
  obtain ⟨es, cl, h1, h2⟩ := h
  exact ⟨es, cl, (hb.block b hlt).trans h1, h2⟩
theorem same_i64 (a b : Nat) : Instr.sameNow (.int .i64) (vi a) (vi b) = some (decide (a = b)) := by
  unfold Instr.sameNow
  by_cases h : a = b
  · simp [h]
  · simp [h]; omega
theorem find_none : ∀ (es : List MapEntry) (ks : List (Nat × Value)) (i k : Nat), MPE es ks → (∀ p ∈ ks, p.1 ≠ k) → Instr.findNow (.int .i64) (vi k) es i = some none
  | [], _, _, _, _, _ => rfl
  | e :: es, [], _, _, h, _ => by simp [MPE] at h
  | e :: es, p :: ks, i, k, h, hk => by
    simp only [MPE, List.map_cons, List.cons.injEq, Prod.mk.injEq] at h
    rw [Instr.findNow, h.1.1, same_i64, decide_eq_false (fun e => hk p List.mem_cons_self e.symm)]
    exact find_none es ks (i + 1) k h.2 fun q hq => hk q (List.mem_cons_of_mem _ hq)
theorem find_some : ∀ (es : List MapEntry) (ks : List (Nat × Value)) (i k : Nat) (v : Value), MPE es ks → (ks.find? fun p => decide (p.1 = k)) = some (k, v) → ∃ j, Instr.findNow (.int .i64) (vi k) es i = some (some (j, v))
  | [], [], _, _, _, _, h => by simp at h
  | [], _ :: _, _, _, _, h, _ => by simp [MPE] at h
  | e :: es, [], _, _, _, h, _ => by simp [MPE] at h
  | e :: es, p :: ks, i, k, v, h, hf => by
    simp only [MPE, List.map_cons, List.cons.injEq, Prod.mk.injEq] at h
    rw [Instr.findNow, h.1.1, same_i64]
    by_cases hpk : p.1 = k
    · rw [List.find?_cons_of_pos (by simpa using hpk)] at hf
      rw [decide_eq_true hpk.symm]
      exact ⟨i, by rw [h.1.2, Option.some.inj hf]⟩
    · rw [List.find?_cons_of_neg (by simpa using hpk)] at hf
      rw [decide_eq_false (fun e => hpk e.symm)]
      exact find_some es ks (i + 1) k v h.2 hf
theorem isKeyI (k : Nat) : MapKept.IsKey (.int .i64) (vi k) := by simp [MapKept.IsKey]
/-- an entry is laid -/
theorem wpList_insert_new {w : World} {ops : Array Oper} {rest : List Oper} {o : Oper} {a : Act} {Q : Exit → Act → World → Prop} (hg : o.guard = none) (m x v : Operand) (hop : o.op = .insert 87 m x v) (hd : o.dst = none)
    (b : Nat) (ks : List (Nat × Value)) (k : Nat) (u : Value) (hm : a.eval m = .map (some b)) (hx : a.eval x = vi k) (hv : a.eval v = u) (hI : MP w b ks) (hk : ∀ p ∈ ks, p.1 ≠ k)
    (h : ∀ w', MP w' b (ks ++ [(k, u)]) → Only b w w' → wpList Tryz.prog ops Q rest a w') : wpList Tryz.prog ops Q (o :: rest) a w := by
  obtain ⟨es, cl, h1, h2⟩ := hI
  have hf := find_none es.toList ks 0 k h2 hk
  have hc : (Instr.checkKey false 10000 3 (vi k)).run Tryz.prog w = .ok () w := MapKept.run_checkKey Tryz.underlying3 (isKeyI k) false 9999
  have hset := MapKept.heap_set (o' := Obj.map (es.push { key := vi k, val := u, born := cl }) (cl + 1)) h1
  have hrun : (Instr.mapUpdate 87 (.map (some b)) (vi k) u).run Tryz.prog w = .ok () { w with heap := w.heap.setIfInBounds b (.map (es.push { key := vi k, val := u, born := cl }) (cl + 1)) } := by
    simp [Instr.mapUpdate, run_underlying Tryz.underlying87, MapKept.run_getObj_map h1, hc, MapKept.run_findKey Tryz.underlying3 hf, MapKept.run_setObj_map _ h1, Result.andThen]
  refine wpList_plain hg fun _ hK => ?_
  unfold Oper.wp execOp
  simp only [hop, hm, hx, hv, Sem.run_bind, Sem.run_pure, Result.andThen_ok, hrun]
  refine hK _ _ ?_
  rw [hd]
  exact h _ ⟨_, _, hset.1, by simp only [MPE, Array.toList_push, List.map_append, List.map_cons, List.map_nil] at h2 ⊢; rw [h2]⟩ ⟨rfl, rfl, rfl, by simp, fun k hk => hset.2 k hk⟩
theorem run_lookup87 {o : Oper} {ρ : Operand → Value} {w : World} (m x : Operand) (ho : o.op = .lookup 87 m x false) (b : Nat) (ks : List (Nat × Value)) (k : Nat) (u : Value) (hm : ρ m = .map (some b)) (hx : ρ x = vi k) (hI : MP w b ks) (hf : (ks.find? fun p => decide (p.1 = k)) = some (k, u)) :
    (execOp ρ o).run Tryz.prog w = .ok (.value u) w := by
  obtain ⟨es, cl, h1, h2⟩ := hI
  obtain ⟨j, hj⟩ := find_some es.toList ks 0 k u h2 hf
  have hc : (Instr.checkKey es.isEmpty 10000 3 (vi k)).run Tryz.prog w = .ok () w := MapKept.run_checkKey Tryz.underlying3 (isKeyI k) _ 9999
  have hrun : (Instr.lookup 87 (.map (some b)) (vi k) false).run Tryz.prog w = .ok u w := by
    simp [Instr.lookup, run_underlying Tryz.underlying87, MapKept.run_getObj_map h1, hc, MapKept.run_findKey Tryz.underlying3 hj, Result.andThen]
  unfold execOp
  simp only [ho, hm, hx, Sem.run_bind, Sem.run_pure, Result.andThen_ok, hrun]

abbrev fvC (g : Nat) : Value := .agg #[.func (.func 58) #[] #[.pointer (some ⟨g, 0, none⟩)]]
theorem wpList_makeMap87 {w : World} {ops : Array Oper} {rest : List Oper} {o : Oper} {a : Act} {Q : Exit → Act → World → Prop} (hg : o.guard = none) (hop : o.op = .makeMap 87 none) (t : Tmp) (hd : o.dst = some t)
    (h : ∀ w', MP w' w.heap.size [] → Below w.heap.size w w' → wpList Tryz.prog ops Q rest (a.put t (.map (some w.heap.size))) w') : wpList Tryz.prog ops Q (o :: rest) a w := by
  refine wpList_plain hg fun _ hK => ?_
  unfold Oper.wp execOp
  simp only [hop, Sem.run_bind, Sem.run_pure]
  refine hK _ _ ?_
  rw [hd]
  exact h _ ⟨#[], 0, by simp, rfl⟩ ((Below.refl _ _).alloc (Nat.le_refl _) _)
theorem built86_66 : Tryz.prog.built 86 [(0, .func (.func 66) #[] #[])] = some #[fn0 66] := by kernel_rfl
theorem built86_68 : Tryz.prog.built 86 [(0, .func (.func 68) #[] #[])] = some #[fn0 68] := by kernel_rfl
theorem built86_69 : Tryz.prog.built 86 [(0, .func (.func 69) #[] #[])] = some #[fn0 69] := by kernel_rfl
theorem built86_71 : Tryz.prog.built 86 [(0, .func (.func 71) #[] #[])] = some #[fn0 71] := by kernel_rfl
/-- the state of the table under way -/
def OPS (w0 w : World) (ks : List (Nat × Value)) : Prop := MP w w0.heap.size ks ∧ Below w0.heap.size w0 w
def OPC (w0 w : World) (ks : List (Nat × Value)) (g : Nat) : Prop := OPS w0 w ks ∧ w.cell? ⟨g, 0, none⟩ = some (fn0 61) ∧ w0.heap.size < g
theorem OPS.below {w0 w w' : World} {ks : List (Nat × Value)} (h : OPS w0 w ks) (b : Below w.heap.size w w') : OPS w0 w' ks := ⟨h.1.below b, h.2.trans (b.mono h.2.size)⟩
theorem OPC.below {w0 w w' : World} {ks : List (Nat × Value)} {g : Nat} (h : OPC w0 w ks g) (b : Below w.heap.size w w') : OPC w0 w' ks g := ⟨h.1.below b, cell_below b h.2.1, h.2.2⟩
theorem OPS.only {w0 w w' : World} {ks ks' : List (Nat × Value)} (h : OPS w0 w ks) (hm : MP w' w0.heap.size ks') (o : Only w0.heap.size w w') : OPS w0 w' ks' := ⟨hm, below_only h.2 o (Nat.le_refl _)⟩
theorem OPC.only {w0 w w' : World} {ks ks' : List (Nat × Value)} {g : Nat} (h : OPC w0 w ks g) (hm : MP w' w0.heap.size ks') (o : Only w0.heap.size w w') : OPC w0 w' ks' g := ⟨h.1.only hm o, cell_at (o.block g (by have := h.2.2; omega)) h.2.1, h.2.2⟩
set_option maxRecDepth 100000 in
set_option maxHeartbeats 8000000 in
theorem ops31_c (w : World) : Calls Tryz.prog 31 #[] w fun e w' => ∃ ks g, e = .returned (.map (some w.heap.size)) ∧ OPC w w' ks g ∧ (ks.find? fun p => decide (p.1 = 2)) = some (2, fvC g) := by
  have hb66 := built86_66
  have hb68 := built86_68
  have hb69 := built86_69
  have hb71 := built86_71
  go_enter Tryz.func31, Tryz.ntmps31
  go_wp2_with (first
    | (with_reducible refine at_oper (.makeMap 87 none) rfl ?_
       refine wpList_makeMap87 rfl rfl 2 rfl ?_
       intro w1 m1 b1
       have HS := Lib.hid (show OPS w w1 [] from ⟨m1, b1⟩)
       clear m1 b1)
    | (go_at_call 57
       refine (each57_c 59 w1).mono ?_
       rintro e w2 ⟨g1, rfl, hg, hge, b⟩
       replace HS := Lib.hid (show OPS w w2 [] from HS.out.below b)
       clear hg hge b)
    | (with_reducible refine at_oper (.insert 87 (.tmp 2) (.const (.int .i64 (Int.ofNat 1))) (.tmp 4)) rfl ?_
       refine wpList_insert_new rfl (.tmp 2) (.const (.int .i64 (Int.ofNat 1))) (.tmp 4) rfl rfl w.heap.size [] 1 (fvC g1) rfl rfl rfl HS.out.1 (by simp) ?_
       intro w3 m o
       replace HS := Lib.hid (show OPS w w3 [(1, fvC g1)] from HS.out.only m o)
       clear m o)
    | (go_at_call 57
       refine (each57_c 61 w3).mono ?_
       rintro e w4 ⟨g2, rfl, hg, hge, b⟩
       replace HS := Lib.hid (show OPC w w4 [(1, fvC g1)] g2 from ⟨HS.out.below b, hg, Nat.lt_of_lt_of_le HS.out.1.lt hge⟩)
       clear hg hge b)
    | (with_reducible refine at_oper (.insert 87 (.tmp 2) (.const (.int .i64 (Int.ofNat 2))) (.tmp 6)) rfl ?_
       refine wpList_insert_new rfl (.tmp 2) (.const (.int .i64 (Int.ofNat 2))) (.tmp 6) rfl rfl w.heap.size [(1, fvC g1)] 2 (fvC g2) rfl rfl rfl HS.out.1.1 (by simp) ?_
       intro w5 m o
       replace HS := Lib.hid (show OPC w w5 [(1, fvC g1), (2, fvC g2)] g2 from HS.out.only m o)
       clear m o)
    | (go_at_call 57
       refine (each57_c 63 w5).mono ?_
       rintro e w6 ⟨g7, rfl, hg, hge, b⟩
       replace HS := Lib.hid (show OPC w w6 [(1, fvC g1), (2, fvC g2)] g2 from HS.out.below b)
       clear hg hge b)
    | (with_reducible refine at_oper (.insert 87 (.tmp 2) (.const (.int .i64 (Int.ofNat 7))) (.tmp 8)) rfl ?_
       refine wpList_insert_new rfl (.tmp 2) (.const (.int .i64 (Int.ofNat 7))) (.tmp 8) rfl rfl w.heap.size [(1, fvC g1), (2, fvC g2)] 7 (fvC g7) rfl rfl rfl HS.out.1.1 (by simp) ?_
       intro w7 m o
       replace HS := Lib.hid (show OPC w w7 [(1, fvC g1), (2, fvC g2), (7, fvC g7)] g2 from HS.out.only m o)
       clear m o)
    | (go_at_call 57
       refine (each57_c 65 w7).mono ?_
       rintro e w8 ⟨g8, rfl, hg, hge, b⟩
       replace HS := Lib.hid (show OPC w w8 [(1, fvC g1), (2, fvC g2), (7, fvC g7)] g2 from HS.out.below b)
       clear hg hge b)
    | (with_reducible refine at_oper (.insert 87 (.tmp 2) (.const (.int .i64 (Int.ofNat 8))) (.tmp 10)) rfl ?_
       refine wpList_insert_new rfl (.tmp 2) (.const (.int .i64 (Int.ofNat 8))) (.tmp 10) rfl rfl w.heap.size [(1, fvC g1), (2, fvC g2), (7, fvC g7)] 8 (fvC g8) rfl rfl rfl HS.out.1.1 (by simp) ?_
       intro w9 m o
       replace HS := Lib.hid (show OPC w w9 [(1, fvC g1), (2, fvC g2), (7, fvC g7), (8, fvC g8)] g2 from HS.out.only m o)
       clear m o)
    | (with_reducible refine at_oper (.insert 87 (.tmp 2) (.const (.int .i64 (Int.ofNat 3))) (.tmp 11)) rfl ?_
       refine wpList_insert_new rfl (.tmp 2) (.const (.int .i64 (Int.ofNat 3))) (.tmp 11) rfl rfl w.heap.size [(1, fvC g1), (2, fvC g2), (7, fvC g7), (8, fvC g8)] 3 (.agg #[fn0 66]) rfl rfl rfl HS.out.1.1 (by simp) ?_
       intro w10 m o
       replace HS := Lib.hid (show OPC w w10 [(1, fvC g1), (2, fvC g2), (7, fvC g7), (8, fvC g8), (3, .agg #[fn0 66])] g2 from HS.out.only m o)
       clear m o)
    | (with_reducible refine at_oper (.insert 87 (.tmp 2) (.const (.int .i64 (Int.ofNat 4))) (.tmp 12)) rfl ?_
       refine wpList_insert_new rfl (.tmp 2) (.const (.int .i64 (Int.ofNat 4))) (.tmp 12) rfl rfl w.heap.size [(1, fvC g1), (2, fvC g2), (7, fvC g7), (8, fvC g8), (3, .agg #[fn0 66])] 4 (.agg #[fn0 68]) rfl rfl rfl HS.out.1.1 (by simp) ?_
       intro w11 m o
       replace HS := Lib.hid (show OPC w w11 [(1, fvC g1), (2, fvC g2), (7, fvC g7), (8, fvC g8), (3, .agg #[fn0 66]), (4, .agg #[fn0 68])] g2 from HS.out.only m o)
       clear m o)
    | (with_reducible refine at_oper (.insert 87 (.tmp 2) (.const (.int .i64 (Int.ofNat 5))) (.tmp 13)) rfl ?_
       refine wpList_insert_new rfl (.tmp 2) (.const (.int .i64 (Int.ofNat 5))) (.tmp 13) rfl rfl w.heap.size [(1, fvC g1), (2, fvC g2), (7, fvC g7), (8, fvC g8), (3, .agg #[fn0 66]), (4, .agg #[fn0 68])] 5 (.agg #[fn0 69]) rfl rfl rfl HS.out.1.1 (by simp) ?_
       intro w12 m o
       replace HS := Lib.hid (show OPC w w12 [(1, fvC g1), (2, fvC g2), (7, fvC g7), (8, fvC g8), (3, .agg #[fn0 66]), (4, .agg #[fn0 68]), (5, .agg #[fn0 69])] g2 from HS.out.only m o)
       clear m o)
    | (with_reducible refine at_oper (.insert 87 (.tmp 2) (.const (.int .i64 (Int.ofNat 6))) (.tmp 14)) rfl ?_
       refine wpList_insert_new rfl (.tmp 2) (.const (.int .i64 (Int.ofNat 6))) (.tmp 14) rfl rfl w.heap.size [(1, fvC g1), (2, fvC g2), (7, fvC g7), (8, fvC g8), (3, .agg #[fn0 66]), (4, .agg #[fn0 68]), (5, .agg #[fn0 69])] 6 (.agg #[fn0 71]) rfl rfl rfl HS.out.1.1 (by simp) ?_
       intro w13 m o
       replace HS := Lib.hid (show OPC w w13 [(1, fvC g1), (2, fvC g2), (7, fvC g7), (8, fvC g8), (3, .agg #[fn0 66]), (4, .agg #[fn0 68]), (5, .agg #[fn0 69]), (6, .agg #[fn0 71])] g2 from HS.out.only m o)
       clear m o))
  go_ret
  exact ⟨_, g2, rfl, HS.out, rfl⟩

set_option maxRecDepth 100000 in
set_option maxHeartbeats 8000000 in
theorem do13_c (A : Option Addr) (n c : Nat) (l : List Nat) (w : World) (hl : l.length = n) (hnc : n ≤ c) (hn : n ≤ 100) (h256 : ∀ x ∈ l, x < 256) (hs : Sl w TT A (u8s l)) : Calls Tryz.prog 13 #[.agg opC, .slice A n c] w
    fun e w' => ∃ A' c', e = .returned (.tuple #[.slice A' n c', .bool true]) ∧ n ≤ c' ∧ Sl w' TT A' (u8s (l.map upF)) ∧ Below w.heap.size w w' := by
  have HS := Lib.hid (And.intro hl (And.intro h256 hs))
  clear hl h256 hs
  go_enter Tryz.func13, Tryz.ntmps13
  go_upto_region 3 with (first
    | (with_reducible refine at_oper (.box 50 (.tmp 0)) rfl ?_
       refine wpList_box_rowG w.heap.size rfl rfl 50 (.tmp 0) rfl opC rfl ?_
       intro w1 k1 b1 s1
       have H1 := Lib.hid (show Below w.heap.size w w1 ∧ Blk w1 w.heap.size 50 opC from ⟨b1, k1⟩)
       clear k1 b1 s1)
    | (with_reducible refine at_oper (.load 50 (.tmp 2)) rfl ?_
       refine wpList_load_blk rfl 50 (.tmp 2) rfl w.heap.size rfl 50 opC _ H1.out.2 Tryz.underlying50 rfl size50 ?_)
    | (go_at_call 30
       refine (valid30_c w1).mono ?_
       rintro e w2 ⟨rfl, b2⟩
       have H2 := Lib.hid (show Below w.heap.size w w2 ∧ Blk w2 w.heap.size 50 opC from ⟨H1.out.1.trans (b2.mono H1.out.1.size), H1.out.2.old b2⟩)
       clear b2))
  clear H1
  try simp only [Act.put, List.setIfInBounds_toArray, List.set_cons_zero, List.set_cons_succ]
  refine wp_region_wf (by kernel_rfl) (.p 1 (.p 6 (.r 2 (.r 5 (.c 0 (.c 3 (.p 4 (.c 7 (.p 8 (.p 9 (.p 10 (.p 11 .e)))))))))))) 7 (fun W => Blk W w.heap.size 50 opC) (by decide +kernel) (fun _ _ d _ _ h => by cases d <;> exact h) H2.out.2 ?_
  refine wf_p (by simp only [List.getElem?_toArray, List.getElem?_cons_succ, List.getElem?_cons_zero]; rfl) ?_ (fun W => ?_) ?_; rotate_left; (focus (go_simp; first | done | rfl)); simp only [Act.put, List.setIfInBounds_toArray, List.set_cons_zero, List.set_cons_succ]
  refine wf_p (by simp only [List.getElem?_toArray, List.getElem?_cons_succ, List.getElem?_cons_zero]; rfl) ?_ (fun W => ?_) ?_; rotate_left; (focus (go_simp; first | done | rfl)); simp only [Act.put, List.setIfInBounds_toArray, List.set_cons_zero, List.set_cons_succ]
  refine wf_r (by simp only [List.getElem?_toArray, List.getElem?_cons_succ, List.getElem?_cons_zero]; rfl) (vi 2) (fun W hS => ?_) ?_
  · have f0 : W.cell? ⟨w.heap.size, 0, none⟩ = some (vi 2) := hS.cell 0
    go_simp
    first | done | rfl
  simp only [Act.put, List.setIfInBounds_toArray, List.set_cons_zero, List.set_cons_succ]
  refine wf_r (by simp only [List.getElem?_toArray, List.getElem?_cons_succ, List.getElem?_cons_zero]; rfl) (.agg opC) (fun W hS => run_load_list 50 (.tmp 2) rfl ⟨w.heap.size, 0, none⟩ rfl opC.toList (fun j v hj => ?_) Tryz.underlying50 rfl size50) ?_
  · have h2 : W.cell? ⟨w.heap.size, j, none⟩ = some v := (hS.cell j).trans (by simpa using hj)
    rcases j with _ | j
    · exact h2
    · simpa [Addr.add] using h2
  simp only [Act.put, List.setIfInBounds_toArray, List.set_cons_zero, List.set_cons_succ]
  generalize hw3 : w2.drew = w3
  have H3 := Lib.hid (show Below w.heap.size w w3 ∧ Blk w3 w.heap.size 50 opC from hw3 ▸ ⟨H2.out.1.drew, H2.out.2⟩)
  clear H2 hw3
  refine wf_c (by simp only [List.getElem?_toArray, List.getElem?_cons_zero]; rfl) ?_
  go_wp2_with (first
    | (go_at_call 31
       refine (ops31_c w3).mono ?_
       rintro e w4 ⟨ks, g, rfl, hO, hF⟩
       have H4 := Lib.hid (show OPC w3 w4 ks g ∧ (ks.find? fun p => decide (p.1 = 2)) = some (2, fvC g) from ⟨hO, hF⟩)
       clear hO hF))
  dsimp only [segQ]
  refine ⟨fun _ hS => hS.old H4.out.1.1.2, ?_⟩
  refine wf_c (by simp only [List.getElem?_toArray, List.getElem?_cons_succ, List.getElem?_cons_zero]; rfl) ?_
  go_wp2_with (first
    | (with_reducible refine at_oper (.lookup 87 (.tmp 9) (.tmp 11) false) rfl ?_
       refine wpList_val rfl (fvC g) (run_lookup87 (.tmp 9) (.tmp 11) rfl w3.heap.size ks 2 (fvC g) rfl rfl H4.out.1.1.1 H4.out.2) ?_))
  dsimp only [segQ]
  first | refine ⟨fun _ hS => hS, ?_⟩ | refine ⟨fun hS => hS, ?_⟩
  refine wf_p (by simp only [List.getElem?_toArray, List.getElem?_cons_succ, List.getElem?_cons_zero]; rfl) ?_ (fun W => ?_) ?_; rotate_left; (focus (go_simp; first | done | rfl)); simp only [Act.put, List.setIfInBounds_toArray, List.set_cons_zero, List.set_cons_succ]
  refine wf_c (by simp only [List.getElem?_toArray, List.getElem?_cons_succ, List.getElem?_cons_zero]; rfl) ?_
  have hB4 : Below w.heap.size w w4 := H3.out.1.trans (H4.out.1.1.2.mono H3.out.1.size)
  go_wp2_with (first
    | (go_at_call 58
       refine (op58_c A n c l g w4 HS.out.1 hnc hn HS.out.2.1 (HS.out.2.2.old (Old.of_below hB4)) H4.out.1.2.1).mono ?_
       rintro e w5 ⟨A5, c5, rfl, h1, h2, h3⟩
       have H5 := Lib.hid (show n ≤ c5 ∧ Sl w5 TT A5 (u8s (l.map upF)) ∧ Below w.heap.size w w5 from ⟨h1, h2, hB4.trans (h3.mono hB4.size)⟩)
       clear h1 h2 h3))
  dsimp only [segQ]
  first | refine ⟨fun h => absurd h (by decide), ?_⟩ | refine ⟨trivial, ?_⟩ | skip
  refine wf_p (by simp only [List.getElem?_toArray, List.getElem?_cons_succ, List.getElem?_cons_zero]; rfl) ?_ (fun W => ?_) ?_; rotate_left; (focus (go_simp; first | done | rfl)); simp only [Act.put, List.setIfInBounds_toArray, List.set_cons_zero, List.set_cons_succ]
  refine wf_p (by simp only [List.getElem?_toArray, List.getElem?_cons_succ, List.getElem?_cons_zero]; rfl) ?_ (fun W => ?_) ?_; rotate_left; (focus (go_simp; first | done | rfl)); simp only [Act.put, List.setIfInBounds_toArray, List.set_cons_zero, List.set_cons_succ]
  refine wf_p (by simp only [List.getElem?_toArray, List.getElem?_cons_succ, List.getElem?_cons_zero]; rfl) ?_ (fun W => ?_) ?_; rotate_left; (focus (go_simp; first | done | rfl)); simp only [Act.put, List.setIfInBounds_toArray, List.set_cons_zero, List.set_cons_succ]
  refine wf_p (by simp only [List.getElem?_toArray, List.getElem?_cons_succ, List.getElem?_cons_zero]; rfl) ?_ (fun W => ?_) ?_; rotate_left; (focus (go_simp; first | done | rfl)); simp only [Act.put, List.setIfInBounds_toArray, List.set_cons_zero, List.set_cons_succ]
  refine wf_e ?_
  go_wp2_with fail
  refine bodyPost_ret (results_tmp2 rfl _ _ _) rfl ?_
  exact ⟨A5, c5, rfl, H5.out⟩
end Go.Proofs.YtjgkdfghjeodeaaGreatDoor
