/- The frame of a law of this seat: its arguments as lists, its statement off its walk. -/
import Derived.Test.YtekbkdbmkjdgbaaLib
import Derived.Test.YtekbkdbmkjdgbaaRows
import Derived.ProofKit
import Derived.SizedLaws
import Derived.Deep.Matrix
import Derived.Deep.Grids
namespace Go.Proofs.Ytekbkdbmkjdgbaa
open Go.ChangeShapes Go.WideShapes Go.ChangeAt Go.RowKit Go.Deep

theorem Try.own : ownKnob Try.prog.godebug = none := by kernel_rfl
theorem Try.laidOut : laidOutB Try.prog = true := by kernel_rfl
theorem Try.cells32 : Try.prog.cellsOf 32 = 1 := by kernel_rfl
theorem Try.cells3 : Try.prog.cellsOf 3 = 1 := by kernel_rfl
theorem Try.cells4 : Try.prog.cellsOf 4 = 1 := by kernel_rfl
theorem Try.bytes32 : Try.prog.bytesOf 32 = 24 := by kernel_rfl
theorem Try.bytes3 : Try.prog.bytesOf 3 = 8 := by kernel_rfl
theorem Try.bytes4 : Try.prog.bytesOf 4 = 1 := by kernel_rfl
theorem max63 : maxLen = 9223372036854775807 := rfl
theorem reach47 : reachBytes = 140737488351232 := rfl

/-- what a law's walk is handed of an argument -/
def ArgOk (W : World) (t : TypeId) (v : Value) : Prop :=
  (t = 22 → ∃ A n c f, v = .slice A n c ∧ R2 W (fun _ => True) A n c f) ∧
  (t = 32 → ∃ A n c l, v = .slice A n c ∧ R1 W (fun _ => True) A n c l) ∧
  (t = 23 → ∃ A n c l, v = .slice A n c ∧ RB W (fun _ => True) A n c l) ∧
  (t = 3 → ∃ x, v = .int .i64 x ∧ I64 x) ∧
  (t = 5 → ∃ x : Nat, v = .int .u8 x ∧ x < 256)

section
variable {H : Type} {enc : TypeId × Value → H} {W : World}

theorem wf_i64 {x : Int} (h : (Lit.int .i64 x).wf = true) : I64 x := by
  simp [Lit.wf, IntKind.min, IntKind.max, IntKind.signed, IntKind.bits] at h
  unfold I64; omega
theorem wf_u8 {x : Int} (h : (Lit.int .u8 x).wf = true) : 0 ≤ x ∧ x < 256 := by
  simp [Lit.wf, IntKind.min, IntKind.max, IntKind.signed, IntKind.bits] at h
  omega

theorem weights_in {P : Program} {e : TypeId} : ∀ {ds : List (DataW H)} {d : DataW H}, d ∈ ds → ∀ n ∈ d.weights P e, n ∈ DataW.weightsAll P e ds
  | [], _, h, _, _ => by simp at h
  | x :: r, d, h, n, hn => by
    rw [DataW.weightsAll, List.mem_append]
    rcases List.mem_cons.1 h with rfl | h
    · exact .inl hn
    · exact .inr (weights_in h n hn)

theorem row_weight {A : Option Addr} {L : Nat} {zs : List Int} (h : ∀ m ∈ (intRow (H := H) .i64 A L zs).weights Try.prog 32, m ≤ reachBytes) (hA : A = none → zs.length = 0) : zs.length * 8 ≤ 140737488351232 := by
  cases A with
  | none => rw [hA rfl]; omega
  | some a =>
    have := h ((((zs.take L).length + (zs.drop L).length)) * 8) (by
      simp only [intRow, lits, DataW.weights, Try.underlying32, Try.bytes3, List.length_map]
      simp)
    rw [reach47] at this
    simp at this
    omega

theorem arg22 {v : Value} {d : DataW H} {ps : List MemPlace} {r : Reach} {b : Nat} (hval : Value.okWide Try.prog W r b 22 v) (h : DataW.Trod enc Try.prog W 0 (fun _ => true) true 22 v d ps) (hw : ∀ m ∈ d.weights Try.prog 22, m ≤ reachBytes) :
    ∃ A n c f, v = .slice A n c ∧ R2 W (fun _ => True) A n c f := by
  obtain ⟨a0, len, cap, rfl⟩ := okWide_slice Try.underlying22 hval
  obtain ⟨fuel, hf⟩ := h
  rcases open_int_rows Try.underlying22 Try.underlying32 Try.underlying3 Try.cells32 Try.cells3 hf with ⟨hcs, _⟩ | ⟨a, len', cap', A, L, C, Z, hcs, _, hl, hm, hx, hrows⟩
  · simp [Value.cells] at hcs
    obtain ⟨rfl, rfl, rfl⟩ := hcs
    exact ⟨none, 0, 0, [], rfl, rfl, Nat.le_refl _, by omega, by omega, [], fun j u hu => by simp at hu, rfl, fun j u l hu _ => by simp at hu⟩
  · simp [Value.cells] at hcs
    obtain ⟨rfl, rfl, rfl⟩ := hcs
    simp only [Prod.mk.injEq] at hx
    obtain ⟨rfl, _⟩ := hx
    have hlen : cap * 24 ≤ 140737488351232 := by
      have := hw ((len + (cap - len)) * 24) (by simp [DataW.weights, Try.underlying22, Try.bytes32])
      rw [reach47] at this
      rw [show len + (cap - len) = cap by omega] at this
      exact this
    rw [max63] at hm
    refine ⟨some a, len, cap, (List.range len).map fun r => (Z r).take (L r), rfl, by simp, hl, by omega, hm, (List.range len).map fun r => .slice (A r) (L r) (C r), fun j u hu => ?_, by simp, fun j u l hu hl' => ?_⟩
    · have hj : j < len := by simpa using (List.getElem?_eq_some_iff.1 hu).1
      have hu' : u = .slice (A j) (L j) (C j) := by
        rw [List.getElem?_map, List.getElem?_range hj] at hu
        simpa using hu.symm
      exact ⟨a, rfl, trivial, by rw [hu']; exact (hrows j (by omega)).1⟩
    · have hj : j < len := by simpa using (List.getElem?_eq_some_iff.1 hu).1
      have hu' : u = .slice (A j) (L j) (C j) := by
        rw [List.getElem?_map, List.getElem?_range hj] at hu
        simpa using hu.symm
      have hl'' : l = (Z j).take (L j) := by
        rw [List.getElem?_map, List.getElem?_range hj] at hl'
        simpa using hl'.symm
      obtain ⟨_, h1, h2, h3, h4, h5, h6⟩ := hrows j (by omega)
      rw [max63] at h2
      have hrw : (Z j).length * 8 ≤ 140737488351232 := row_weight (H := H) (A := A j) (L := L j) (fun m hm => hw m (by
        simp only [DataW.weights, Try.underlying22]
        refine List.mem_cons_of_mem _ (List.mem_append_left _ (weights_in (List.mem_map.2 ⟨j, List.mem_range.2 hj, rfl⟩) m hm)))) (fun e => by rw [h3]; exact h5 e)
      refine ⟨A j, L j, C j, hu', by rw [hl'']; simp; omega, h1, by omega, h2, fun x hx => wf_i64 (h4 x (List.mem_of_mem_take (by rw [← hl'']; exact hx))), fun i y hy => ?_⟩
      have hi : i < L j := by
        have := (List.getElem?_eq_some_iff.1 hy).1
        rw [List.length_map, hl'', List.length_take] at this
        omega
      cases hA : A j with
      | none => have := h5 hA; omega
      | some a' =>
        refine ⟨a', rfl, trivial, ?_⟩
        rw [(h6 a' hA).2 i (by omega)]
        have hiz : i < (Z j).length := by omega
        rw [hl'', List.getElem?_map, List.getElem?_take_of_lt hi, List.getElem?_eq_getElem hiz] at hy
        simp [hiz] at hy ⊢
        exact hy

theorem arg32 {v : Value} {d : DataW H} {ps : List MemPlace} {r : Reach} {b : Nat} (hval : Value.okWide Try.prog W r b 32 v) (h : DataW.Trod enc Try.prog W 0 (fun _ => true) true 32 v d ps) (hw : ∀ m ∈ d.weights Try.prog 32, m ≤ reachBytes) :
    ∃ A n c l, v = .slice A n c ∧ R1 W (fun _ => True) A n c l := by
  obtain ⟨a0, len, cap, rfl⟩ := okWide_slice Try.underlying32 hval
  obtain ⟨fuel, hf⟩ := h
  rcases open_ints Try.underlying32 Try.underlying3 Try.cells3 hf with ⟨hcs, _⟩ | ⟨a, len', cap', zs, hcs, _, hl, hm, hz, hx, hcell, hwz⟩
  · simp [Value.cells] at hcs
    obtain ⟨rfl, rfl, rfl⟩ := hcs
    exact ⟨none, 0, 0, [], rfl, rfl, Nat.le_refl _, by omega, by omega, by simp, fun j u hu => by simp at hu⟩
  · simp [Value.cells] at hcs
    obtain ⟨rfl, rfl, rfl⟩ := hcs
    simp only [Prod.mk.injEq] at hx
    obtain ⟨rfl, _⟩ := hx
    simp only [if_true] at hz
    have hlen : zs.length * 8 ≤ 140737488351232 := by
      have := hw (((zs.take len).length + (zs.drop len).length) * 8) (by simp [DataW.weights, Try.underlying32, Try.bytes3, lits])
      rw [reach47] at this
      simp at this
      omega
    rw [max63] at hm
    refine ⟨some a, len, cap, zs.take len, rfl, by simp; omega, hl, by omega, hm, fun x hx => wf_i64 (hwz x (List.mem_of_mem_take hx)), fun i y hy => ?_⟩
    have hi : i < len := by
      have := (List.getElem?_eq_some_iff.1 hy).1
      rw [List.length_map, List.length_take] at this
      omega
    refine ⟨a, rfl, trivial, ?_⟩
    have hiz : i < zs.length := by omega
    rw [hcell i hiz]
    rw [List.getElem?_map, List.getElem?_take_of_lt hi, List.getElem?_eq_getElem hiz] at hy
    simp [hiz] at hy ⊢
    exact hy

theorem arg23 {v : Value} {d : DataW H} {ps : List MemPlace} {r : Reach} {b : Nat} (hval : Value.okWide Try.prog W r b 23 v) (h : DataW.Trod enc Try.prog W 0 (fun _ => true) true 23 v d ps) (hw : ∀ m ∈ d.weights Try.prog 23, m ≤ reachBytes) :
    ∃ A n c l, v = .slice A n c ∧ RB W (fun _ => True) A n c l := by
  obtain ⟨a0, len, cap, rfl⟩ := okWide_slice Try.underlying23 hval
  obtain ⟨fuel, hf⟩ := h
  rcases open_bools Try.underlying23 Try.underlying4 Try.cells4 hf with ⟨hcs, _⟩ | ⟨a, len', cap', B, hcs, _, hl, hm, hx, hcell⟩
  · simp [Value.cells] at hcs
    obtain ⟨rfl, rfl, rfl⟩ := hcs
    exact ⟨none, 0, 0, [], rfl, rfl, Nat.le_refl _, by omega, by omega, fun j u hu => by simp at hu⟩
  · simp [Value.cells] at hcs
    obtain ⟨rfl, rfl, rfl⟩ := hcs
    simp only [Prod.mk.injEq] at hx
    obtain ⟨rfl, _⟩ := hx
    have hlen : len + (cap - len) ≤ 140737488351232 := by
      have := hw ((len + (cap - len)) * 1) (by simp [DataW.weights, Try.underlying23, Try.bytes4, boolRow])
      rw [reach47] at this
      simpa using this
    rw [max63] at hm
    refine ⟨some a, len, cap, (List.range len).map B, rfl, by simp, hl, by omega, hm, fun i y hy => ?_⟩
    have hi : i < len := by simpa using (List.getElem?_eq_some_iff.1 hy).1
    refine ⟨a, rfl, trivial, ?_⟩
    rw [hcell i (by omega)]
    rw [List.getElem?_map, List.getElem?_map, List.getElem?_range hi] at hy
    simpa using hy

theorem arg_ok {t : TypeId} {v : Value} {d : DataW H} {ps : List MemPlace} {r : Reach} {b : Nat} (hval : Value.okWide Try.prog W r b t v) (h : DataW.Trod enc Try.prog W 0 (fun _ => true) true t v d ps) (hw : ∀ m ∈ d.weights Try.prog t, m ≤ reachBytes) :
    ArgOk W t v := by
  refine ⟨fun e => ?_, fun e => ?_, fun e => ?_, fun e => ?_, fun e => ?_⟩
  · subst e; exact arg22 hval h hw
  · subst e; exact arg32 hval h hw
  · subst e; exact arg23 hval h hw
  · subst e
    obtain ⟨x, rfl, _, _, wx⟩ := open_int Try.underlying3 hval h
    exact ⟨x, rfl, wf_i64 wx⟩
  · subst e
    obtain ⟨x, rfl, _, _, wx⟩ := open_int Try.underlying5 hval h
    obtain ⟨h0, h1⟩ := wf_u8 wx
    exact ⟨x.toNat, by rw [Int.toNat_of_nonneg h0], by omega⟩

def ArgsOk (W : World) : List TypeId → List Value → Prop
  | [], [] => True
  | t :: ts, v :: vs => ArgOk W t v ∧ ArgsOk W ts vs
  | _, _ => False

theorem args_ok {r : Reach} {b : Nat} : ∀ {ts : List TypeId} {vs : List Value} {ds : List (DataW H)} {ps : List MemPlace}, (∀ (j : Nat) t v, ts[j]? = some t → vs[j]? = some v → Value.okWide Try.prog W r b t v) →
    DataW.TrodAll enc Try.prog W 0 (fun _ => true) true ts vs ds ps → (∀ m ∈ DataW.weightsEach Try.prog ts ds, m ≤ reachBytes) → ArgsOk W ts vs ∧ ds.length = ts.length
  | [], vs, ds, ps, _, h, _ => by
    obtain ⟨rfl, rfl, _⟩ := trodAll_nil h
    exact ⟨trivial, rfl⟩
  | t :: ts, vs, ds, ps, hv, h, hw => by
    obtain ⟨v, vs', d, ds', p, q, rfl, rfl, rfl, h1, h2⟩ := trodAll_cons h
    rw [DataW.weightsEach] at hw
    obtain ⟨i1, i2⟩ := args_ok (fun j t v ht hv' => hv (j + 1) t v ht hv') h2 (fun m hm => hw m (List.mem_append_right _ hm))
    exact ⟨⟨arg_ok (hv 0 t v rfl rfl) h1 (fun m hm => hw m (List.mem_append_left _ hm)), i1⟩, by simp [i2]⟩

theorem args_again {W' : World} (hb : Below W.heap.size W W') : ∀ {ts : List TypeId} {vs : List Value} {ds : List (DataW H)} {ps : List MemPlace}, (∀ t ∈ ts, Try.prog.readableRec t = true ∧ t < Try.prog.types.size) →
    DataW.TrodAll enc Try.prog W 0 (fun _ => true) true ts vs ds ps → (∀ x ∈ ps, x.block < W.heap.size) → DataW.TrodAll enc Try.prog W' 0 (fun b => decide (b < W.heap.size)) true ts vs ds ps
  | [], vs, ds, ps, _, h, _ => by
    obtain ⟨rfl, rfl, rfl⟩ := trodAll_nil h
    exact trodAll_mk0
  | t :: ts, vs, ds, ps, hr, h, hlt => by
    obtain ⟨v, vs', d, ds', p, q, rfl, rfl, rfl, h1, h2⟩ := trodAll_cons h
    obtain ⟨r1, r2⟩ := hr t List.mem_cons_self
    exact ⟨p, q, Below.trod Try.laidOut r1 r2 h1 hb (fun x hx => hlt x (List.mem_append_left _ hx)), args_again hb (fun t ht => hr t (List.mem_cons_of_mem _ ht)) h2 (fun x hx => hlt x (List.mem_append_right _ hx)), rfl⟩

theorem law_lifted (os : Os) (started : os.Started) {fid : FuncId} {fn : Func} {s : ChangeSpec} {ts : List TypeId} (noInit : Try.checked.prog.inits.idxOf? fid = none) (hfn : Try.prog.funcs[fid]? = some fn) (hps : fn.params.toList = ts) (hrt : fn.resultTypes = #[4]) (hsv : s.vars = [])
    (hspec : ∀ (ds : List (DataW H)), ds.length = ts.length → s.fn H ds = { results := [.lit (.bool true)], args := ds })
    (hread : ∀ t ∈ ts, Try.prog.readableRec t = true ∧ t < Try.prog.types.size)
    (witness : ∃ (w : World) (tape : Tape) (i : Input), w.os = os ∧ (w.forCall tape i).Shaped Try.checked.prog ∧ i.vars = [] ∧ Input.okWide Try.checked.prog (w.forCall tape i) .any w.heap.size fid i ∧
      s.pre6 enc Try.checked.prog fn [] false (w.forCall tape i).memory i.args ∧ ({} : Assume).holds Try.checked.prog (lone (Frame.enter Try.checked.prog fid i.args .normal) [] (w.forCall tape i)))
    (walk : ∀ (W : World) (args : Array Value), ArgsOk W ts args.toList → Calls Try.prog fid args W (Gives W (.bool true))) :
    ReturnsInHanded {} Try.checked os fid .any (s.pre6 enc Try.prog fn [] false) (s.post enc Try.prog fn false true false false) := by
  refine returnsInHanded_of_change_sized (C := Try.checked) Try.own started noInit hfn witness ?_
  intro W base args ds gs before hval0 hW _ hreach _
  have hW' := hW
  obtain ⟨p, q, hA0, hV, rfl, hfz, hnd⟩ := hW
  have hA : DataW.TrodAll enc Try.prog W 0 (fun _ => true) true fn.params.toList args.toList ds p := hA0
  have hreach' : (DataW.weightsEach Try.prog (fn.params.toList ++ s.plain.varTypes Try.prog) (ds ++ gs)).all (· ≤ reachBytes) = true := hreach
  have hvt : s.plain.varTypes Try.prog = [] := by
    unfold ChangeSpec.plain
    simp only [hsv]
    rfl
  rw [hsv] at hV
  obtain ⟨rfl, rfl⟩ := trodVars_none hV
  rw [hvt, List.append_nil, List.append_nil, hps] at hreach'
  rw [hps] at hA
  have hlt : ∀ x ∈ p, x.block < W.heap.size := fun x hx => hW'.lt x (by simpa using hx)
  obtain ⟨hok, hdl⟩ := args_ok (r := .any) (b := base) (fun j t v ht hv => hval0 j t v (by rw [← Array.getElem?_toList, hps]; exact ht) (by rw [← Array.getElem?_toList]; exact hv)) hA (fun m hm => by
    have := List.all_eq_true.1 hreach' m hm
    simpa using this)
  refine (walk W args hok).mono fun e W' ⟨he, hb⟩ => ?_
  subst he
  have hsp := hspec ds hdl
  refine ⟨_, rfl, ds, [], p ++ [], [], p, [], hW', ?_, ?_, ?_, hb.frame _, fun h => by cases h⟩
  · rw [List.append_nil, hsp, hrt]
    exact trodAll_mk1 (shut_bool Try.underlying4 true)
  · rw [List.append_nil, hsp]
    show DataW.TrodAll enc Try.prog W' 0 (fun b => decide (b < W.heap.size)) true fn.params.toList args.toList ds p
    rw [hps]
    exact args_again hb hread hA hlt
  · rw [List.append_nil, hsp, hsv]
    exact (rfl : DataW.TrodVars enc Try.prog W' _ [] [] [])
end

end Go.Proofs.Ytekbkdbmkjdgbaa
