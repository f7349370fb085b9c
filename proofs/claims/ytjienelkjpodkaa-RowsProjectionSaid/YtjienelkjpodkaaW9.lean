/- Walks: step. -/
import Derived.Test.YtjienelkjpodkaaW8
import Derived.Test.YtjienelkjpodkaaL3
import Derived.Deep.AppendLies
import Derived.Deep.RegionLaw
namespace Go.Proofs.Ytjienelkjpodkaa
open Go.RowKit

theorem size49 : (Try.prog.info? 49).map (·.size) = some 8 := by kernel_rfl

/-- an append of one element of s cells, as a step of a region that draws -/
theorem step_pushS {P : Program} {ops : Array Oper} {o : Oper} {a : Act} {w : World} {K : Act → World → Prop} {Q : Exit → Act → World → Prop} {E : Prop} (hgd : o.guard = none) (sx x : Operand) (t : TypeId)
    (ho : o.op = .call { callee := .builtin .append, args := #[sx, x], argTypes := #[t, t] }) {e : TypeId} {s b : Nat} (hT : AppS P t e s b) (base : Nat)
    (A : Option Addr) (n c : Nat) (xs : List Value) (hs : a.eval sx = .slice A n c) (hown : OwnS w base e s A n c xs)
    (g : Nat) (us : List Value) (hx : a.eval x = .slice (some ⟨g, 0, none⟩) 1 1) (hl : us.length = s) (t' : TypeId) (hc : Blk w g t' us.toArray) (h1 : ∀ u ∈ us, u.oneCell' = true)
    (hb : (n + 1) * b ≤ 140737488355328) (hn : n + 1 ≤ 9223372036854775807) (hbase : base ≤ w.heap.size)
    (h : ∀ A' c' w', OwnS w' base e s A' (n + 1) c' (xs ++ us) → w.grownBy w' (obl A) → (obl A' = obl A ∨ obl A' = some w.heap.size) → K (a.put o.dst (.slice A' (n + 1) c')) w') :
    if Region.wanted o (yielded ops a.tmps) = true then Oper.wp P o a w K Q else E := by
  have hw : Region.wanted o (yielded ops a.tmps) = true := by simp [Region.wanted, hgd]
  rw [if_pos hw]
  obtain ⟨hs0, ht, i, z, hi, hz, hsz, hby, hzc⟩ := hT
  obtain ⟨v', w', hrun, h2, h3, _, h5⟩ := run_append_own_at (P := P) (w := w) base t o.type e i z s b ht hi hz hsz hby hzc hs0 (.slice A n c) n xs hown ⟨g, 0, none⟩ 1 1 us (by rw [hl]; omega) (fun j u hj => by
    have e : (⟨g, 0, none⟩ : Addr).add j = ⟨g, j, none⟩ := by
      unfold Addr.add
      by_cases hj : j = 0
      · simp [hj]
      · simp [hj]
    rw [e, hc.cell]
    simpa using hj) h1 (by unfold maxLen; omega) hb hbase
  obtain ⟨A', c', rfl, _, _⟩ := ownS_slice h2
  rw [ownBlock_slice] at h3
  rw [ownBlock_slice, ownBlock_slice] at h5
  unfold Oper.wp execOp
  simp only [ho, resolve, invoke, builtin, Sem.run_bind, Sem.run_pure, Result.andThen_ok, List.map_toArray, List.map_cons, List.map_nil, hs, hx, hrun]
  exact h A' c' w' h2 h3 h5

theorem blk_two (w : World) (X : Obj) (t : TypeId) (cs : Array Value) : Blk ((w.alloc X).alloc (.cells cs t)).drew (w.heap.size + 1) t cs := by
  have h := Blk.new (w.alloc X) t cs
  rw [show (w.alloc X).heap.size = w.heap.size + 1 by simp] at h
  exact h
theorem ownS_ne_blk {w : World} {base n c s : Nat} {e t : TypeId} {A : Option Addr} {xs : List Value} {cs : Array Value} {g : Nat} (h : OwnS w base e s A n c xs) (hg : Blk w g t cs) (hne : e ≠ t) : obl A ≠ some g := fun ha => by
  obtain ⟨cur, hc⟩ := h.type ha
  unfold Blk at hg
  rw [hg] at hc
  injection hc with hc
  injection hc with _ ht
  exact hne ht.symm

def stepCells (kd : Int) (m : Value) (r d x k nx el : Int) : List Value := [.int .i64 kd, m, .int .i64 r, .int .i64 d, .int .i64 x, .int .i64 k, .int .i64 nx, .int .i64 el]

/-- what a call that writes the block g and appends to the row A may turn -/
structure Chg (g : Nat) (A : Option Addr) (w w' : World) : Prop where
  os : w'.os = w.os
  tape : w'.tape = w.tape
  output : w'.output = w.output
  size : w.heap.size ≤ w'.heap.size
  old : ∀ k, k ≠ g → obl A ≠ some k → k < w.heap.size → w'.heap[k]? = w.heap[k]?
def NewOr (w : World) (A A' : Option Addr) : Prop := ∀ k, obl A' = some k → obl A = some k ∨ w.heap.size ≤ k

def StepPost (g B : Nat) (t1 t2 t3 t4 : Value) (pA : Option Addr) (pn : Nat) (us : List Value) (w : World) (e : Ending) (w' : World) : Prop :=
  e = .returned (.tuple #[]) ∧ ∃ pA' pc', Blk w' g 63 #[t1, t2, t3, t4, .slice pA' (pn + 1) pc'] ∧ OwnS w' B 49 8 pA' (pn + 1) pc' us ∧ Chg g pA w w' ∧ NewOr w pA pA'

theorem step_done {w w9 w' : World} {g B pn c9 : Nat} {t1 t2 t3 t4 : Value} {pA A9 : Option Addr} {pc : Nat} {us vs : List Value} {X Y : Obj} (hk : Blk w g 63 #[t1, t2, t3, t4, .slice pA pn pc]) (ho : OwnS w B 49 8 pA pn pc us)
    (hown : OwnS w9 B 49 8 A9 (pn + 1) c9 vs) (hgr : ((w.alloc X).alloc Y).drew.grownBy w9 (obl pA)) (hob : obl A9 = obl pA ∨ obl A9 = some ((w.alloc X).alloc Y).drew.heap.size) (hw : w'.heap = (w9.setCell ⟨g, 4, none⟩ (.slice A9 (pn + 1) c9)).heap) (h1 : w'.os = w9.os) (h2 : w'.tape = w9.tape) (h3 : w'.output = w9.output) :
    StepPost g B t1 t2 t3 t4 pA pn vs w (.returned (.tuple #[])) w' := by
  have hgl := hk.lt
  have hb : Below w.heap.size w ((w.alloc X).alloc Y).drew := (((Below.refl _ _).alloc (Nat.le_refl _) _).alloc (by simp) _).drew
  have hne := ownS_ne_blk ho hk (by decide)
  have hk9 : Blk w9 g 63 #[t1, t2, t3, t4, .slice pA pn pc] := (hk.old hb).grown hgr hne
  have hs := hgr.size
  have hsz : w.heap.size + 2 ≤ w9.heap.size := by simp at hs; omega
  have hn9 : obl A9 ≠ some g := fun e => by
    rcases hob with e' | e'
    · rw [e'] at e; exact hne e
    · rw [e'] at e; cases e; simp at hgl; omega
  have hblk : ∀ k, k ≠ g → w'.heap[k]? = w9.heap[k]? := fun k hkg => by rw [hw]; exact Below.heap_setCell w9 ⟨g, 4, none⟩ _ k hkg
  have hk' : Blk (w9.setCell ⟨g, 4, none⟩ (.slice A9 (pn + 1) c9)) g 63 #[t1, t2, t3, t4, .slice A9 (pn + 1) c9] := hk9.set_ 4 _
  refine ⟨rfl, A9, c9, ?_, hown.keep fun q hq => hblk q (fun e => hn9 (by rw [hq, e])), ⟨?_, ?_, ?_, ?_, ?_⟩, ?_⟩
  · unfold Blk at hk' ⊢
    rw [hw]; exact hk'
  · rw [h1, hgr.os]; exact hb.os
  · rw [h2, hgr.tape]; exact hb.tape
  · rw [h3, hgr.output]; exact hb.output
  · rw [hw]
    have : (w9.setCell ⟨g, 4, none⟩ (.slice A9 (pn + 1) c9)).heap.size = w9.heap.size := by simp [World.setCell]
    omega
  · intro k h4 h5 h6
    rw [hblk k h4, hgr.block k (by simp; omega) (fun e => h5 e.symm)]
    exact hb.block k h6
  · intro k hk
    rcases hob with e | e
    · exact .inl (by rw [← e]; exact hk)
    · rw [e] at hk; cases hk; right; simp; omega

set_option maxHeartbeats 2000000 in
/-- '(*search).step'. -/
theorem step_c (g : Nat) (t1 t2 t3 t4 : Value) (pA : Option Addr) (pn pc : Nat) (us : List Value) (B : Nat) (mA : Option Addr) (mn mc : Nat) (kd r d x k nx el : Int) (w : World) (h : Blk w g 63 #[t1, t2, t3, t4, .slice pA pn pc]) (ho : OwnS w B 49 8 pA pn pc us) (hp : pn ≤ 100000) (hB : B ≤ w.heap.size) :
    Calls Try.prog 34 #[.pointer (some ⟨g, 0, none⟩), .agg (stepCells kd (.slice mA mn mc) r d x k nx el).toArray] w (StepPost g B t1 t2 t3 t4 pA pn (us ++ stepCells kd (.slice mA mn mc) r d x k (pn + 1) el) w) := by
  unfold stepCells
  have c4 : w.cell? ⟨g, 4, none⟩ = some (.slice pA pn pc) := h.cell 4
  have hgl := h.lt
  have HK := Lib.hid h
  have HO := Lib.hid ho
  have HN := Lib.hid (ownS_ne_blk ho h (by decide))
  clear h ho
  go_enter Try.func34, Try.ntmps34
  go_wp2
  go_region_law (refine step_pushS rfl (.tmp 15) (.tmp 17) 29 rfl app29 B pA pn pc us rfl ((HO.out.alloc _).alloc _) (w.heap.size + 1) [.int .i64 kd, .slice mA mn mc, .int .i64 r, .int .i64 d, .int .i64 x, .int .i64 k, .int .i64 (pn + 1), .int .i64 el] rfl rfl 49 (blk_two w _ 49 _) (by simp [Value.oneCell']) (by omega) (by omega) (by simp; omega) ?_; intro A9 c9 w9 hown hgr hob; have hk9 := (HK.out.old (((((Below.refl w.heap.size w).alloc (Nat.le_refl _) _).alloc (by simp) _)).drew)).grown hgr HN.out; have c9' := hk9.cell 4; have f9' := hk9.frozen 4; have HO9 := Lib.hid hown; have HG9 := Lib.hid hgr; have HN9 := Lib.hid hob; clear hk9 hown hgr hob)
  all_goals go_end0
  all_goals exact step_done HK.out HO.out HO9.out HG9.out HN9.out rfl rfl rfl rfl

end Go.Proofs.Ytjienelkjpodkaa
