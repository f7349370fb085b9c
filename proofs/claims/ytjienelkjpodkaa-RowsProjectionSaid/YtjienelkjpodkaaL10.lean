/- What start makes. -/
import Derived.Test.YtjienelkjpodkaaL9
namespace Go.Proofs.Ytjienelkjpodkaa
open Go.RowKit

/-- a system that a search takes -/
structure SysOk (s : Sys) : Prop where
  n1 : 1 ≤ s.1.length
  n12 : s.1.length ≤ 12
  m24 : s.2.length ≤ 24
  top : eachB s.1 0 64 = true
  rows : ∀ r ∈ s.2, r.1.length = s.1.length ∧ eachB r.1 (-1000) 1000 = true ∧ -100000 ≤ r.2 ∧ r.2 ≤ 100000

def boxK (s : Sys) (k : Nat) (n : Int) : Box :=
  { lo := List.replicate 12 0, hi := pad (s.1.take k), below := pad ((List.range k).map fun i => ((s.2.length + i : Nat) : Int)), above := pad ((List.range k).map fun i => ((s.2.length + s.1.length + i : Nat) : Int)), rows := n }
theorem boxK_full (s : Sys) (n : Int) : boxK s s.1.length n = boxF s n := by simp [boxK, boxF]
theorem pad_len {l : List Int} (h : l.length ≤ 12) : (pad l).length = 12 := by simp [pad]; omega
theorem pad_snoc {l : List Int} {x : Int} (h : l.length < 12) : (pad l).set l.length x = pad (l ++ [x]) := by
  unfold pad
  rw [List.set_append_right _ _ (Nat.le_refl _), Nat.sub_self, show 12 - l.length = (12 - (l ++ [x]).length) + 1 by simp; omega, List.replicate_succ, List.set_cons_zero]
  simp
theorem boxK_wf {s : Sys} (h : SysOk s) {k : Nat} (hk : k ≤ s.1.length) (n : Int) : (boxK s k n).Wf := by
  have := h.n12
  exact ⟨by simp [boxK], pad_len (by simp; omega), pad_len (by simp; omega), pad_len (by simp; omega)⟩
theorem boxK_step {s : Sys} (h : SysOk s) {k : Nat} (hk : k < s.1.length) {x n : Int} (hx : s.1[k]? = some x) :
    { boxK s k n with hi := (boxK s k n).hi.set k x, below := (boxK s k n).below.set k ((s.2.length : Int) + k), above := (boxK s k n).above.set k ((s.2.length : Int) + s.1.length + k) } = boxK s (k + 1) n := by
  have := h.n12
  have e1 : (pad (s.1.take k)).set k x = pad (s.1.take (k + 1)) := by
    rw [take_snoc_of hx, ← pad_snoc (by simp; omega)]
    congr 1
    simp; omega
  have e2 : ∀ f : Nat → Int, (pad ((List.range k).map f)).set k (f k) = pad ((List.range (k + 1)).map f) := fun f => by
    rw [List.range_succ, List.map_append, List.map_singleton, ← pad_snoc (by simp; omega)]
    congr 1
    simp
  unfold boxK
  simp only [e1]
  have h1 := e2 (fun i => ((s.2.length + i : Nat) : Int))
  have h2 := e2 (fun i => ((s.2.length + s.1.length + i : Nat) : Int))
  simp only [Int.natCast_add] at h1 h2 ⊢
  rw [h1, h2]

theorem size25 : (Try.prog.info? 25).map (·.size) = some 2 := by kernel_rfl
theorem bxv_zero (s : Sys) (v : Int) : (List.replicate 48 (Value.int .i64 0) ++ [Value.int .i64 v]).toArray = bxv (boxK s 0 v) := by
  simp [bxv, Box.ints, boxK, pad]
structure Box1 (g5 : Nat) (s : Sys) (N : Int) (w4 wr : World) (k : Nat) : Prop where
  only : Only g5 w4 wr
  blk : Blk wr g5 58 (bxv (boxK s k N))
theorem Box1.next {g5 : Nat} {s : Sys} {N x : Int} {w4 wr : World} {k : Nat} (h : Box1 g5 s N w4 wr k) (hs : SysOk s) (hx : s.1[k]? = some x) : Box1 g5 s N w4 (((wr.setCell ⟨g5, 12 + k, none⟩ (.int .i64 x)).setCell ⟨g5, 24 + k, none⟩ (.int .i64 ((s.2.length : Int) + k))).setCell ⟨g5, 36 + k, none⟩ (.int .i64 ((s.2.length : Int) + s.1.length + k))) (k + 1) := by
  have hk : k < s.1.length := (List.getElem?_eq_some_iff.1 hx).1
  have h12 := hs.n12
  have hw := boxK_wf hs (Nat.le_of_lt hk) N
  refine ⟨h.only.trans (((Only.setCell _ _ _ _).trans (Only.setCell _ _ _ _)).trans (Only.setCell _ _ _ _)), ?_⟩
  have h1 := ((h.blk.set_ (12 + k) (.int .i64 x)).set_ (24 + k) (.int .i64 ((s.2.length : Int) + k))).set_ (36 + k) (.int .i64 ((s.2.length : Int) + s.1.length + k))
  rw [bxv_hi hw (by omega), bxv_below (b := { boxK s k N with hi := (boxK s k N).hi.set k x }) ⟨hw.lo, by simp [hw.hi], hw.below, hw.above⟩ (by omega),
    bxv_above (b := { boxK s k N with hi := (boxK s k N).hi.set k x, below := (boxK s k N).below.set k ((s.2.length : Int) + k) }) ⟨hw.lo, by simp [hw.hi], by simp [hw.below], hw.above⟩ (by omega), boxK_step hs hk hx] at h1
  exact h1


theorem gcdStep_bound {M : Int} : ∀ (k : Nat) (g n : Int), -M ≤ g → g ≤ M → -M ≤ n → n ≤ M → -M ≤ gcdStep k g n ∧ gcdStep k g n ≤ M
  | 0, g, n, h1, h2, _, _ => ⟨h1, h2⟩
  | k + 1, g, n, h1, h2, h3, h4 => by
    rw [gcdStep]
    by_cases hn : n = 0
    · rw [if_pos hn]; exact ⟨h1, h2⟩
    · rw [if_neg hn]
      have := Int.natAbs_tmod g n
      have hlt : (g.tmod n).natAbs < n.natAbs := by rw [this]; exact Nat.mod_lt _ (by omega)
      exact gcdStep_bound k n (g.tmod n) h3 h4 (by omega) (by omega)
theorem gcdFrom_bound {M : Int} : ∀ (l : List Int) (g : Int), eachB l (-M) M = true → -M ≤ g → g ≤ M → -M ≤ gcdFrom l g ∧ gcdFrom l g ≤ M
  | [], g, _, h1, h2 => ⟨h1, h2⟩
  | n :: r, g, h, h1, h2 => by
    unfold eachB at h
    rw [List.all_cons, Bool.and_eq_true] at h
    have hb := bet_iff.1 h.1
    have := gcdStep_bound (n.natAbs + 1) g n h1 h2 hb.1 hb.2
    exact gcdFrom_bound r _ h.2 this.1 this.2
theorem gcdF_bound {M : Int} {l : List Int} (h : eachB l (-M) M = true) (hM : 0 ≤ M) : 0 ≤ gcdF l ∧ gcdF l ≤ M := by
  have := gcdFrom_bound l 0 h (by omega) hM
  unfold gcdF
  omega

/-- how far a beginning has come -/
structure StOk (s : Sys) (k : Nat) (st : Begin) : Prop where
  rest : startGo (s.2.drop k) k st = startF s
  rl : st.rows.length ≤ 2 * k
  al : st.at'.length = st.rows.length
  pl : st.p.length ≤ k
  n1 : (s.2.length : Int) + 2 * s.1.length ≤ st.n
  n2 : st.n ≤ (s.2.length : Int) + 2 * s.1.length + k
  at' : eachB st.at' 0 (st.n - 1) = true
  rows : ∀ r ∈ st.rows, r.1.length = s.1.length ∧ eachB r.1 (-1000) 1000 = true ∧ -1000000 ≤ r.2 ∧ r.2 ≤ 1000000
theorem eachB_snoc {l : List Int} {x lo hi : Int} (h : eachB l lo hi = true) (h1 : lo ≤ x) (h2 : x ≤ hi) : eachB (l ++ [x]) lo hi = true := by
  unfold eachB at *
  rw [List.all_append, h]
  simp [bet, h1, h2]
theorem cut_eachB {l : List Int} {d : Int} (h : eachB l (-1000) 1000 = true) : eachB (l.map fun a => a.tdiv d) (-1000) 1000 = true := by
  unfold eachB at *
  rw [List.all_eq_true] at *
  intro x hx
  obtain ⟨a, ha, rfl⟩ := List.mem_map.1 hx
  have := bet_iff.1 (h a ha)
  have := Int.natAbs_tdiv_le_natAbs a d
  exact bet_iff.2 (by omega)
theorem StOk.start (s : Sys) : StOk s 0 ⟨[], [], [], (s.2.length : Int) + 2 * s.1.length⟩ :=
  ⟨rfl, Nat.le_refl _, rfl, Nat.le_refl _, Int.le_refl _, by simp, rfl, fun r hr => by cases hr⟩
theorem StOk.plain {s : Sys} {k : Nat} {st : Begin} {r : Row} (h : StOk s k st) (hs : SysOk s) (hr : s.2[k]? = some r) (hc : ¬ (2 ≤ gcdF r.1 ∧ r.2.tmod (gcdF r.1) ≠ 0)) :
    StOk s (k + 1) { { st with rows := st.rows ++ [r] } with at' := st.at' ++ [(k : Int)] } := by
  have hk : k < s.2.length := (List.getElem?_eq_some_iff.1 hr).1
  have hrr := hs.rows r (List.mem_of_getElem? hr)
  have hn := h.n1
  refine ⟨?_, ?_, ?_, ?_, h.n1, ?_, eachB_snoc h.at' (by omega) (by show (k : Int) ≤ st.n - 1; have := hs.n1; omega), ?_⟩
  · have := h.rest
    rw [drop_cons_of hr, startGo] at this
    simp only [if_neg hc] at this
    exact this
  · have := h.rl; simp; omega
  · simp [h.al]
  · have := h.pl; simp; omega
  · have := h.n2; simp; omega
  · intro r' hr'
    rcases List.mem_append.1 hr' with h' | h'
    · exact h.rows r' h'
    · rw [List.mem_singleton] at h'; subst h'; exact ⟨hrr.1, hrr.2.1, by omega, by omega⟩
theorem StOk.cut {s : Sys} {k : Nat} {st : Begin} {r : Row} {gg : Int} (h : StOk s k st) (hs : SysOk s) (hr : s.2[k]? = some r) (hg : gcdF r.1 = gg) (hc : 2 ≤ gg ∧ r.2.tmod gg ≠ 0) :
    StOk s (k + 1) ⟨st.rows ++ [r] ++ [cutR r gg], st.at' ++ [(k : Int)] ++ [st.n], st.p ++ [{ kind := 2, r := k, d := gg, next := st.p.length + 1 }], st.n + 1⟩ := by
  subst hg
  have hk : k < s.2.length := (List.getElem?_eq_some_iff.1 hr).1
  have hrr := hs.rows r (List.mem_of_getElem? hr)
  have hn := h.n1
  refine ⟨?_, ?_, ?_, ?_, ?_, ?_, eachB_snoc (eachB_snoc (eachB_mono h.at' (Int.le_refl _) (by show st.n - 1 ≤ st.n + 1 - 1; omega)) (by omega) (by show (k : Int) ≤ st.n + 1 - 1; have := hs.n1; omega)) (by omega) (by show st.n ≤ st.n + 1 - 1; omega), ?_⟩
  · have := h.rest
    rw [drop_cons_of hr, startGo] at this
    simp only [if_pos hc] at this
    exact this
  · have := h.rl; simp; omega
  · simp [h.al]
  · have := h.pl; simp; omega
  · show _ ≤ st.n + 1; omega
  · have := h.n2; simp; omega
  · intro r' hr'
    rcases List.mem_append.1 hr' with h' | h'
    · rcases List.mem_append.1 h' with h' | h'
      · exact h.rows r' h'
      · rw [List.mem_singleton] at h'; subst h'; exact ⟨hrr.1, hrr.2.1, by omega, by omega⟩
    · rw [List.mem_singleton] at h'; subst h'
      have := floor_bound r.2 (gcdF r.1) (by omega)
      have hd := hc.1
      have h3 := Int.natAbs_tdiv_le_natAbs r.2 (gcdF r.1)
      refine ⟨by simp [cutR, hrr.1], cut_eachB hrr.2.1, ?_, ?_⟩
      · show -1000000 ≤ floorF r.2 (gcdF r.1); unfold floorF; split <;> omega
      · show floorF r.2 (gcdF r.1) ≤ 1000000; unfold floorF; split <;> omega

def StartPost (w : World) (s : Sys) (F : Fix) (e : Ending) (w' : World) : Prop :=
  ∃ g pA pn pc, e = .returned (.tuple #[.pointer (some ⟨g, 0, none⟩), .agg (bxv (boxF s (startF s).n))]) ∧ Srch w' w.heap.size g F pA pn pc (startF s).p ∧ Below w.heap.size w w' ∧ w.heap.size ≤ g
section
variable {w wy w9 w' : World} {g : Nat} {t1 t2 : Value} {cs1 : Array Value} {s : Sys} {st : Begin} {rA : Option Addr} {rn rc : Nat} {rus : List Value} {aA : Option Addr} {an ac : Nat} {pA : Option Addr} {pn pc : Nat} {us : List Value}
theorem StMem.rowIn {A' : Option Addr} {n' c' : Nat} {r : Row} (h : StMem w g t1 t2 cs1 s st rA rn rc rus aA an ac pA pn pc us wy) (hg : w.heap.size + 2 ≤ g) (hR : R1 wy (fun k => k < w.heap.size) A' n' c' r.1) (hI : I64 r.2) : RowIn wy (K5 g rA aA pA) (.slice A' n' c') (.int .i64 r.2) r :=
  ⟨A', n', c', rfl, rfl, hR.weak (fun k _ (hk : k < w.heap.size) => ⟨by omega, ⟨by omega, by omega⟩, fun e => by have := (h.rows.lt k e).1; omega, fun e => by have := (h.at'.lt k e).1; omega, fun e => by have := (h.p.lt k e).1; omega⟩), hI⟩
theorem StMem.pushRow {A9 : Option Addr} {c9 : Nat} {u v : Value} {r : Row} (h : StMem w g t1 t2 cs1 s st rA rn rc rus aA an ac pA pn pc us wy) (hg : w.heap.size + 2 ≤ g) (hr : RowIn wy (K5 g rA aA pA) u v r)
    (hown : OwnS w9 w.heap.size 37 2 A9 (rn + 1) c9 (rus ++ [u, v])) (hgr : wy.grownBy w9 (obl rA)) (hob : obl A9 = obl rA ∨ obl A9 = some wy.heap.size)
    (hw : w'.heap = (w9.setCell ⟨g, 2, none⟩ (.slice A9 (rn + 1) c9)).heap) (h1 : w'.os = w9.os) (h2 : w'.tape = w9.tape) (h3 : w'.output = w9.output) :
    StMem w g t1 t2 cs1 s { st with rows := st.rows ++ [r] } A9 (rn + 1) c9 (rus ++ [u, v]) aA an ac pA pn pc us w' ∧ Chg g rA wy w' ∧ NewOr wy rA A9 := by
  obtain ⟨hk, ho, hc, hn⟩ := fld_done (j := 2) h.blk (by decide) h.rows (Below.refl _ _) hown hgr hob hw h1 h2 h3
  exact ⟨h.addRow hg hk ho hc hn hr, hc, hn⟩
theorem StMem.pushAt {A9 : Option Addr} {c9 : Nat} {x : Int} (h : StMem w g t1 t2 cs1 s st rA rn rc rus aA an ac pA pn pc us wy) (hg : w.heap.size + 2 ≤ g)
    (hown : Own w9 w.heap.size 3 A9 (an + 1) c9 (st.at'.map (Value.int .i64) ++ [.int .i64 x])) (hgr : wy.grownBy w9 (obl aA)) (hob : obl A9 = obl aA ∨ obl A9 = some wy.heap.size)
    (hw : w'.heap = (w9.setCell ⟨g, 3, none⟩ (.slice A9 (an + 1) c9)).heap) (h1 : w'.os = w9.os) (h2 : w'.tape = w9.tape) (h3 : w'.output = w9.output) :
    StMem w g t1 t2 cs1 s { st with at' := st.at' ++ [x] } rA rn rc rus A9 (an + 1) c9 pA pn pc us w' ∧ Chg g aA wy w' ∧ NewOr wy aA A9 := by
  have ha : OwnS wy w.heap.size 3 1 aA an ac (st.at'.map (Value.int .i64)) := h.at'
  obtain ⟨hk, ho, hc, hn⟩ := fld_done (j := 3) (s := 1) h.blk (by decide) ha (Below.refl _ _) hown hgr hob hw h1 h2 h3
  exact ⟨h.addAt hg hk ho hc hn, hc, hn⟩
theorem StMem.size (h : StMem w g t1 t2 cs1 s st rA rn rc rus aA an ac pA pn pc us wy) : w.heap.size ≤ wy.heap.size := h.below.size
theorem StMem.num {k : Nat} (h : StMem w g t1 t2 cs1 s st rA rn rc rus aA an ac pA pn pc us wy) : rn = st.rows.length ∧ an = st.at'.length ∧ pn = st.p.length := by
  have h1 := h.rows.len
  have h2 := h.rin.1
  have h3 := h.at'.len
  have h4 := h.p.len
  have h5 := h.pin.1
  simp at h3
  omega
end
/-- a call, as a step of a region that draws -/
theorem step_call {P : Program} {ops : Array Oper} {o : Oper} {a : Act} {w : World} {K : Act → World → Prop} {Q : Exit → Act → World → Prop} {E : Prop} (hgd : o.guard = none) (f : FuncId) (args : Array Value) (e : (execOp a.eval o).run P w = .ok (.enter f args) w)
    (h : Calls P f args w fun e w' => ∃ v, e = .returned v ∧ K (a.put o.dst v) w') : if Region.wanted o (yielded ops a.tmps) = true then Oper.wp P o a w K Q else E := by
  have hw : Region.wanted o (yielded ops a.tmps) = true := by unfold Region.wanted; rw [hgd]
  rw [if_pos hw]
  unfold Oper.wp
  rw [e, Oper.upon_enter]
  refine h.mono fun e w' ⟨v, he, hk⟩ => ?_
  subst he
  exact hk
theorem app22s : AppS Try.prog 22 3 1 8 := AppS.of (.int .i64 0) (by omega) Try.underlying22 (by kernel_rfl) rfl
theorem R1.far {w wx wz : World} {B : Nat} {A : Option Addr} {n c : Nat} {l : List Int} (h : R1 wx (fun k => k < B) A n c l) (hx : Below B w wx) (hz : Below B w wz) : R1 wz (fun k => k < B) A n c l :=
  h.old fun k hk _ => (hz.block k hk).trans (hx.block k hk).symm
theorem boxF_rows (s : Sys) (h : SysOk s) (v : Int) : (boxF s v).Wf := by
  have := boxK_wf h (Nat.le_refl s.1.length) v
  rwa [boxK_full] at this
theorem blk_drew {w : World} {g : Nat} {t : TypeId} {cs : Array Value} (h : Blk w g t cs) : Blk w.drew g t cs := h
theorem StMem.rowNew {w wy wz : World} {g : Nat} {t1 t2 : Value} {cs1 : Array Value} {s : Sys} {st : Begin} {rA : Option Addr} {rn rc : Nat} {rus : List Value} {aA : Option Addr} {an ac : Nat} {pA : Option Addr} {pn pc : Nat} {us : List Value} {A' : Option Addr} {n' c' : Nat} {r : Row}
    (h : StMem w g t1 t2 cs1 s st rA rn rc rus aA an ac pA pn pc us wy) (hR : R1 wz (fun k => wy.drew.heap.size ≤ k) A' n' c' r.1) (hI : I64 r.2) : RowIn wz (K5 g rA aA pA) (.slice A' n' c') (.int .i64 r.2) r :=
  ⟨A', n', c', rfl, rfl, hR.weak (fun k _ (hk : wy.heap.size ≤ k) => ⟨by have := h.blk.lt; omega, ⟨by have := h.box.lt; omega, by have := h.blk.lt; omega⟩, fun e => by have := (h.rows.lt k e).2; omega, fun e => by have := (h.at'.lt k e).2; omega, fun e => by have := (h.p.lt k e).2; omega⟩), hI⟩
theorem StMem.end_ {w wr w' : World} {g : Nat} {t1 t2 : Value} {cs1 cs2 : Array Value} {s : Sys} {st : Begin} {rA : Option Addr} {rn rc : Nat} {rus : List Value} {aA : Option Addr} {an ac : Nat} {pA : Option Addr} {pn pc : Nat} {us : List Value}
    (h : StMem w g t1 t2 cs1 s st rA rn rc rus aA an ac pA pn pc us wr) (hg : g = w.heap.size + 2) (hk : Blk w' (w.heap.size + 1) 58 cs2) (ho : Only (w.heap.size + 1) wr w') :
    StMem w g t1 t2 cs2 s st rA rn rc rus aA an ac pA pn pc us w' := by
  have keep : Old (K5 g rA aA pA) wr w' := fun k hk _ => ho.block k (by have := hk.2.1.2; omega)
  have ha : OwnS wr w.heap.size 3 1 aA an ac (st.at'.map (Value.int .i64)) := h.at'
  exact ⟨h.blk.only ho (by omega), h.box.only ho (by omega), h.rows.only ho (ownS_ne_blk h.rows h.k58 (by decide)), h.rin.old keep, OwnS.only (s := 1) ha ho (ownS_ne_blk ha h.k58 (by decide)), h.p.only ho (ownS_ne_blk h.p h.k58 (by decide)), h.pin.old keep, below_only h.below ho (by omega), hk⟩
structure EndInv (w : World) (g : Nat) (t1 t2 : Value) (s : Sys) (st : Begin) (rA : Option Addr) (rn rc : Nat) (rus : List Value) (aA : Option Addr) (an ac : Nat) (pA : Option Addr) (pn pc : Nat) (us : List Value) (D : Nat → Bool) (F : Nat → Option Value) (W : World) : Prop where
  out : ∀ k, k ≠ 2 → k ≠ 129 → k ≠ 130 → F k = none
  v129 : D 0 = true → F 129 = some (pt g)
  v130 : D 1 = true → F 130 = some (.agg (bxv (boxF s st.n)))
  v2 : D 2 = true → F 2 = some (pt g)
  mem : ∃ cs, StMem w g t1 t2 cs s st rA rn rc rus aA an ac pA pn pc us W ∧ cs.size = 49 ∧ (D 3 = true → cs = bxv (boxF s st.n))
theorem end_puts {Q : Exit → Act → World → Prop} {a0 : Act} {F : Nat → Option Value} {W : World} {g g3 : Nat} (hs : 131 ≤ a0.tmps.size) (h3 : a0.eval (.tmp 3) = pt g3) (hd : a0.defers = []) (e2 : F 2 = some (pt g)) (e3 : F 3 = none)
    (h : ∀ pa : Act, pa.tmps.getD 2 undef = pt g → pa.tmps.getD 3 undef = pt g3 → pa.defers = [] → Q .normal pa W) : Q .normal (puts a0 F) W := by
  refine h _ ?_ ?_ hd
  · have := puts_eval a0 F 2 (by omega)
    rw [e2] at this
    simpa [Act.eval] using this
  · have := puts_eval a0 F 3 (by omega)
    rw [e3, h3] at this
    simpa [Act.eval] using this
theorem results_two {P : Program} {fn : Func} {t t2 : Tmp} {ty : TypeId} (h : fn.results = #[.tmp t, .cell t2 ty]) (tmps : Array Value) (w : World) (v : Value) (h1 : tmps.getD t undef = v) (g : Nat) (ht : tmps.getD t2 undef = .pointer (some ⟨g, 0, none⟩)) (t' : TypeId) (cs : Array Value) (hb : Blk w g t' cs)
    {d : TypeDesc} (hu : P.underlying ty = some d) (hd : (match d with | .struct _ | .array _ _ => true | _ => false) = true) (hi : (P.info? ty).map (·.size) = some cs.size) : (results fn tmps).run P w = .ok (.tuple #[v, .agg cs]) w := by
  have h2 := run_loadVar_row w g t' ty cs (0, 0) d hb hu hd hi
  have e : tmps[t2]?.getD undef = .pointer (some ⟨g, 0, none⟩) := by simpa using ht
  have e1 : tmps[t]?.getD undef = v := by simpa using h1
  unfold results
  rw [h]
  simp [e, e1, asAddr, h2]
end Go.Proofs.Ytjienelkjpodkaa
