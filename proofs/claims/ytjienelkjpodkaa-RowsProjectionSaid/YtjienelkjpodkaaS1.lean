/- The frame of a law of this seat: its arguments as lists, its statement off its walk. -/
import Derived.Test.YtjienelkjpodkaaW22
import Derived.Test.YtjienelkjpodkaaRows
import Derived.ProofKit
import Derived.SizedLaws
import Derived.Deep.Matrix
import Derived.Deep.SlicePairs
import Derived.Lib.SmallJoins
namespace Go.Proofs.Ytjienelkjpodkaa
open Go.ChangeShapes Go.WideShapes Go.ChangeAt Go.RowKit Go.Deep Go.Joins

theorem Try.own : ownKnob Try.prog.godebug = none := by kernel_rfl
theorem Try.laidOut : laidOutB Try.prog = true := by kernel_rfl
theorem Try.cells3 : Try.prog.cellsOf 3 = 1 := by kernel_rfl
theorem Try.cells22 : Try.prog.cellsOf 22 = 1 := by kernel_rfl
theorem Try.cells23 : Try.prog.cellsOf 23 = 1 := by kernel_rfl
theorem Try.cells25 : Try.prog.cellsOf 25 = 2 := by kernel_rfl
theorem Try.cells37 : Try.prog.cellsOf 37 = 2 := by kernel_rfl
theorem Try.bytes3 : Try.prog.bytesOf 3 = 8 := by kernel_rfl
theorem Try.bytes37 : Try.prog.bytesOf 37 = 32 := by kernel_rfl
theorem max63 : maxLen = 9223372036854775807 := rfl
theorem reach47 : reachBytes = 140737488351232 := rfl

/-- what a law's walk is handed of an argument -/
def ArgOk (W : World) (t : TypeId) (v : Value) : Prop :=
  (t = 25 → ∃ A n c B m d, ∃ s : Sys, v = .agg #[.slice A n c, .slice B m d] ∧ R1 W TT A n c s.1 ∧ RR W TT B m d s.2) ∧
  (t = 37 → ∃ A n c, ∃ r : Row, v = .agg #[.slice A n c, .int .i64 r.2] ∧ R1 W TT A n c r.1 ∧ I64 r.2) ∧
  (t = 22 → ∃ A n c l, v = .slice A n c ∧ R1 W TT A n c l) ∧
  (t = 5 → ∃ x : Nat, v = .int .u8 x ∧ x < 256)

section
variable {H : Type} {enc : TypeId × Value → H} {W : World}

theorem wf_i64 {x : Int} (h : (Lit.int .i64 x).wf = true) : I64 x := by
  simp [Lit.wf, IntKind.min, IntKind.max, IntKind.signed, IntKind.bits] at h
  unfold I64; omega
theorem wf_u8 {x : Int} (h : (Lit.int .u8 x).wf = true) : 0 ≤ x ∧ x < 256 := by
  simp [Lit.wf, IntKind.min, IntKind.max, IntKind.signed, IntKind.bits] at h
  omega

theorem weights_in {P : Program} {e : TypeId} : ∀ {ds : List (DataW H)} {d : DataW H}, d ∈ ds → ∀ n ∈ d.weights P e, n ∈ DataW.weightsAll P e ds
  | [], _, h, _, _ => by simp at h
  | x :: r, d, h, n, hn => by
    rw [DataW.weightsAll, List.mem_append]
    rcases List.mem_cons.1 h with rfl | h
    · exact .inl hn
    · exact .inr (weights_in h n hn)

theorem rd22 {v : Value} {y : DataW H × List MemPlace} {fuel : Nat} (hf : DataW.trod enc Try.prog W 0 (fun _ => true) true fuel 22 [v] = some y) (hw : ∀ m ∈ y.1.weights Try.prog 22, m ≤ reachBytes) :
    ∃ A n c l, v = .slice A n c ∧ R1 W TT A n c l := by
  rcases open_ints Try.underlying22 Try.underlying3 Try.cells3 hf with ⟨hcs, _⟩ | ⟨a, len, cap, zs, hcs, _, hl, hm, hz, hx, hcell, hwz⟩
  · simp at hcs
    subst hcs
    exact ⟨none, 0, 0, [], rfl, R1.nil_ _ _⟩
  · simp at hcs
    subst hcs
    simp only [if_true] at hz
    have hlen : zs.length * 8 ≤ 140737488351232 := by
      have := hw (((zs.take len).length + (zs.drop len).length) * 8) (by rw [hx]; simp [DataW.weights, Try.underlying22, Try.bytes3, lits])
      rw [reach47] at this
      simp at this
      omega
    rw [max63] at hm
    refine ⟨some a, len, cap, zs.take len, rfl, by simp; omega, hl, by omega, hm, fun x hx => wf_i64 (hwz x (List.mem_of_mem_take hx)), fun i y hy => ?_⟩
    have hi : i < len := by
      have := (List.getElem?_eq_some_iff.1 hy).1
      rw [List.length_map, List.length_take] at this
      omega
    refine ⟨a, rfl, trivial, ?_⟩
    have hiz : i < zs.length := by omega
    rw [hcell i hiz]
    rw [List.getElem?_map, List.getElem?_take_of_lt hi, List.getElem?_eq_getElem hiz] at hy
    simp [hiz] at hy ⊢
    exact hy
theorem rd3 {v : Value} {y : DataW H × List MemPlace} {fuel : Nat} (hf : DataW.trod enc Try.prog W 0 (fun _ => true) true fuel 3 [v] = some y) : ∃ x, v = .int .i64 x ∧ I64 x := by
  obtain ⟨n, h1, _, h3⟩ := DataW.trod_int Try.underlying3 hf
  simp at h1
  exact ⟨n, h1, wf_i64 h3⟩
theorem rd23 {v : Value} {y : DataW H × List MemPlace} {fuel : Nat} (hf : DataW.trod enc Try.prog W 0 (fun _ => true) true fuel 23 [v] = some y) (hw : ∀ m ∈ y.1.weights Try.prog 23, m ≤ reachBytes) :
    ∃ A n c l, v = .slice A n c ∧ RR W TT A n c l := by
  rcases open_slice_pairs Try.underlying23 Try.underlying37 Try.cells37 rfl rfl Try.cells22 Try.cells3 hf with ⟨hcs, _⟩ | ⟨a, len, cap, m, n, V0, V1, D0, D1, P0, P1, hcs, _, hl, hm, hmm, hx, hall⟩
  · simp at hcs
    subst hcs
    exact ⟨none, 0, 0, [], rfl, RR.nil_ _ _⟩
  · simp at hcs
    subst hcs
    simp only [if_true] at hmm
    subst hmm
    have hlen : len * 32 ≤ 140737488351232 := by
      have := hw ((len + (m - len)) * 32) (by rw [hx]; simp [DataW.weights, Try.underlying23, Try.bytes37])
      rw [reach47] at this
      omega
    rw [max63] at hm
    obtain ⟨q, hq⟩ := choose_lt (α := Row) (n := len) (p := fun i r => RowIn W TT (V0 i) (V1 i) r) (fun i hi => by
      obtain ⟨_, _, h3, h4⟩ := hall i (by omega)
      obtain ⟨A, n', c', l, e1, r1⟩ := rd22 h3 (fun k hk => hw k (by
        rw [hx]
        simp only [DataW.weights, Try.underlying23]
        refine List.mem_cons_of_mem _ (List.mem_append_left _ (weights_in (List.mem_map.2 ⟨i, List.mem_range.2 hi, rfl⟩) k ?_))
        simp only [DataW.weights, Try.underlying37]
        exact List.mem_append_left _ hk))
      obtain ⟨x, e2, r2⟩ := rd3 h4
      exact ⟨(l, x), A, n', c', e1, e2, r1, r2⟩)
    refine ⟨some a, len, m, (List.range len).map q, rfl, by simp, hl, by omega, hm, (List.range len).flatMap fun i => [V0 i, V1 i], ?_, ?_, fun j r hr => ?_⟩
    · intro j u hu
      have key : ∀ k, ((List.range k).flatMap fun i => [V0 i, V1 i]).length = 2 * k := fun k => by
        induction k with
        | zero => rfl
        | succ k ih => rw [List.range_succ, List.flatMap_append, List.length_append, ih]; simp; omega
      have hj : j < 2 * len := by rw [← key len]; exact (List.getElem?_eq_some_iff.1 hu).1
      refine ⟨a, rfl, trivial, ?_⟩
      have hget : ∀ k j, j < 2 * k → ((List.range k).flatMap fun i => [V0 i, V1 i])[j]? = some (if j % 2 = 0 then V0 (j / 2) else V1 (j / 2)) := fun k => by
        induction k with
        | zero => intro j hj; omega
        | succ k ih =>
          intro j hj
          rw [List.range_succ, List.flatMap_append]
          by_cases h : j < 2 * k
          · rw [List.getElem?_append_left (by rw [key]; exact h)]; exact ih j h
          · rw [List.getElem?_append_right (by rw [key]; omega), key]
            rcases (show j = 2 * k ∨ j = 2 * k + 1 by omega) with rfl | rfl
            · rw [if_pos (by omega)]; simp
            · rw [if_neg (by omega), show (2 * k + 1) / 2 = k by omega]; simp [Nat.add_sub_cancel_left]
      rw [hget len j hj] at hu
      obtain ⟨c0, c1, _, _⟩ := hall (j / 2) (by omega)
      by_cases h2 : j % 2 = 0
      · rw [if_pos h2] at hu
        rw [show j / 2 * 2 = j by omega] at c0
        rw [c0, hu]
      · rw [if_neg h2] at hu
        rw [show j / 2 * 2 + 1 = j by omega] at c1
        rw [c1, hu]
    · have key : ∀ k, ((List.range k).flatMap fun i => [V0 i, V1 i]).length = 2 * k := fun k => by
        induction k with
        | zero => rfl
        | succ k ih => rw [List.range_succ, List.flatMap_append, List.length_append, ih]; simp; omega
      rw [key]; simp; omega
    · have hj : j < len := by simpa using (List.getElem?_eq_some_iff.1 hr).1
      rw [List.getElem?_map, List.getElem?_range hj] at hr
      have hr' : q j = r := by simpa using hr
      have key : ∀ k, ((List.range k).flatMap fun i => [V0 i, V1 i]).length = 2 * k := fun k => by
        induction k with
        | zero => rfl
        | succ k ih => rw [List.range_succ, List.flatMap_append, List.length_append, ih]; simp; omega
      have hget : ∀ k j, j < k → ((List.range k).flatMap fun i => [V0 i, V1 i])[j * 2]? = some (V0 j) ∧ ((List.range k).flatMap fun i => [V0 i, V1 i])[j * 2 + 1]? = some (V1 j) := fun k => by
        induction k with
        | zero => intro j hj; omega
        | succ k ih =>
          intro j hj
          rw [List.range_succ, List.flatMap_append]
          by_cases h : j < k
          · rw [List.getElem?_append_left (by rw [key]; omega), List.getElem?_append_left (by rw [key]; omega)]; exact ih j h
          · obtain rfl : j = k := by omega
            rw [List.getElem?_append_right (by rw [key]; omega), List.getElem?_append_right (by rw [key]; omega), key, show j * 2 - 2 * j = 0 by omega, show j * 2 + 1 - 2 * j = 1 by omega]
            simp
      obtain ⟨g1, g2⟩ := hget len j hj
      exact ⟨V0 j, V1 j, g1, g2, by rw [← hr']; exact hq j hj⟩

theorem arg_ok {t : TypeId} {v : Value} {d : DataW H} {ps : List MemPlace} {r : Reach} {b : Nat} (hval : Value.okWide Try.prog W r b t v) (h : DataW.Trod enc Try.prog W 0 (fun _ => true) true t v d ps) (hw : ∀ m ∈ d.weights Try.prog t, m ≤ reachBytes) :
    ArgOk W t v := by
  refine ⟨fun e => ?_, fun e => ?_, fun e => ?_, fun e => ?_⟩
  · subst e
    obtain ⟨v0, v1, y0, y1, n, rfl, rfl, _, h0, h1⟩ := open_agg2 Try.underlying25 (by kernel_rfl) Try.cells25 hval h
    simp only [DataW.weights, Try.underlying25] at hw
    obtain ⟨A, n, c, l, rfl, r1⟩ := rd22 h0 (fun k hk => hw k (List.mem_append_left _ hk))
    obtain ⟨B, m, d, rs, rfl, r2⟩ := rd23 h1 (fun k hk => hw k (List.mem_append_right _ (List.mem_append_left _ hk)))
    exact ⟨A, n, c, B, m, d, (l, rs), rfl, r1, r2⟩
  · subst e
    obtain ⟨v0, v1, y0, y1, n, rfl, rfl, _, h0, h1⟩ := open_agg2 Try.underlying37 (by kernel_rfl) Try.cells37 hval h
    simp only [DataW.weights, Try.underlying37] at hw
    obtain ⟨A, n, c, l, rfl, r1⟩ := rd22 h0 (fun k hk => hw k (List.mem_append_left _ hk))
    obtain ⟨x, rfl, r2⟩ := rd3 h1
    exact ⟨A, n, c, (l, x), rfl, r1, r2⟩
  · subst e
    obtain ⟨a0, len, cap, rfl⟩ := okWide_slice Try.underlying22 hval
    obtain ⟨fuel, hf⟩ := h
    exact rd22 (y := (d, ps)) hf hw
  · subst e
    obtain ⟨x, rfl, _, _, wx⟩ := open_int Try.underlying5 hval h
    obtain ⟨h0, h1⟩ := wf_u8 wx
    exact ⟨x.toNat, by rw [Int.toNat_of_nonneg h0], by omega⟩

def ArgsOk (W : World) : List TypeId → List Value → Prop
  | [], [] => True
  | t :: ts, v :: vs => ArgOk W t v ∧ ArgsOk W ts vs
  | _, _ => False

theorem args_ok {r : Reach} {b : Nat} : ∀ {ts : List TypeId} {vs : List Value} {ds : List (DataW H)} {ps : List MemPlace}, (∀ (j : Nat) t v, ts[j]? = some t → vs[j]? = some v → Value.okWide Try.prog W r b t v) →
    DataW.TrodAll enc Try.prog W 0 (fun _ => true) true ts vs ds ps → (∀ m ∈ DataW.weightsEach Try.prog ts ds, m ≤ reachBytes) → ArgsOk W ts vs ∧ ds.length = ts.length
  | [], vs, ds, ps, _, h, _ => by
    obtain ⟨rfl, rfl, _⟩ := trodAll_nil h
    exact ⟨trivial, rfl⟩
  | t :: ts, vs, ds, ps, hv, h, hw => by
    obtain ⟨v, vs', d, ds', p, q, rfl, rfl, rfl, h1, h2⟩ := trodAll_cons h
    rw [DataW.weightsEach] at hw
    obtain ⟨i1, i2⟩ := args_ok (fun j t v ht hv' => hv (j + 1) t v ht hv') h2 (fun m hm => hw m (List.mem_append_right _ hm))
    exact ⟨⟨arg_ok (hv 0 t v rfl rfl) h1 (fun m hm => hw m (List.mem_append_left _ hm)), i1⟩, by simp [i2]⟩

theorem args_again {W' : World} (hb : Below W.heap.size W W') : ∀ {ts : List TypeId} {vs : List Value} {ds : List (DataW H)} {ps : List MemPlace}, (∀ t ∈ ts, Try.prog.readableRec t = true ∧ t < Try.prog.types.size) →
    DataW.TrodAll enc Try.prog W 0 (fun _ => true) true ts vs ds ps → (∀ x ∈ ps, x.block < W.heap.size) → DataW.TrodAll enc Try.prog W' 0 (fun b => decide (b < W.heap.size)) true ts vs ds ps
  | [], vs, ds, ps, _, h, _ => by
    obtain ⟨rfl, rfl, rfl⟩ := trodAll_nil h
    exact trodAll_mk0
  | t :: ts, vs, ds, ps, hr, h, hlt => by
    obtain ⟨v, vs', d, ds', p, q, rfl, rfl, rfl, h1, h2⟩ := trodAll_cons h
    obtain ⟨r1, r2⟩ := hr t List.mem_cons_self
    exact ⟨p, q, Below.trod Try.laidOut r1 r2 h1 hb (fun x hx => hlt x (List.mem_append_left _ hx)), args_again hb (fun t ht => hr t (List.mem_cons_of_mem _ ht)) h2 (fun x hx => hlt x (List.mem_append_right _ hx)), rfl⟩

theorem law_lifted (os : Os) (started : os.Started) {fid : FuncId} {fn : Func} {s : ChangeSpec} {ts : List TypeId} (noInit : Try.checked.prog.inits.idxOf? fid = none) (hfn : Try.prog.funcs[fid]? = some fn) (hps : fn.params.toList = ts) (hrt : fn.resultTypes = #[4]) (hsv : s.vars = [])
    (hspec : ∀ (ds : List (DataW H)), ds.length = ts.length → s.fn H ds = { results := [.lit (.bool true)], args := ds })
    (hread : ∀ t ∈ ts, Try.prog.readableRec t = true ∧ t < Try.prog.types.size)
    (witness : ∃ (w : World) (tape : Tape) (i : Input), w.os = os ∧ (w.forCall tape i).Shaped Try.checked.prog ∧ i.vars = [] ∧ Input.okWide Try.checked.prog (w.forCall tape i) .any w.heap.size fid i ∧
      s.pre6 enc Try.checked.prog fn [] false (w.forCall tape i).memory i.args ∧ ({} : Assume).holds Try.checked.prog (lone (Frame.enter Try.checked.prog fid i.args .normal) [] (w.forCall tape i)))
    (walk : ∀ (W : World) (args : Array Value), ArgsOk W ts args.toList → Calls Try.prog fid args W (Gives W (.bool true))) :
    ReturnsInHanded {} Try.checked os fid .any (s.pre6 enc Try.prog fn [] false) (s.post enc Try.prog fn false true false false) := by
  refine returnsInHanded_of_change_sized (C := Try.checked) Try.own started noInit hfn witness ?_
  intro W base args ds gs before hval0 hW _ hreach _
  have hW' := hW
  obtain ⟨p, q, hA0, hV, rfl, hfz, hnd⟩ := hW
  have hA : DataW.TrodAll enc Try.prog W 0 (fun _ => true) true fn.params.toList args.toList ds p := hA0
  have hreach' : (DataW.weightsEach Try.prog (fn.params.toList ++ s.plain.varTypes Try.prog) (ds ++ gs)).all (· ≤ reachBytes) = true := hreach
  have hvt : s.plain.varTypes Try.prog = [] := by
    unfold ChangeSpec.plain
    simp only [hsv]
    rfl
  rw [hsv] at hV
  obtain ⟨rfl, rfl⟩ := trodVars_none hV
  rw [hvt, List.append_nil, List.append_nil, hps] at hreach'
  rw [hps] at hA
  have hlt : ∀ x ∈ p, x.block < W.heap.size := fun x hx => hW'.lt x (by simpa using hx)
  obtain ⟨hok, hdl⟩ := args_ok (r := .any) (b := base) (fun j t v ht hv => hval0 j t v (by rw [← Array.getElem?_toList, hps]; exact ht) (by rw [← Array.getElem?_toList]; exact hv)) hA (fun m hm => by
    have := List.all_eq_true.1 hreach' m hm
    simpa using this)
  refine (walk W args hok).mono fun e W' ⟨he, hb⟩ => ?_
  subst he
  have hsp := hspec ds hdl
  refine ⟨_, rfl, ds, [], p ++ [], [], p, [], hW', ?_, ?_, ?_, hb.frame _, fun h => by cases h⟩
  · rw [List.append_nil, hsp, hrt]
    exact trodAll_mk1 (shut_bool Try.underlying4 true)
  · rw [List.append_nil, hsp]
    show DataW.TrodAll enc Try.prog W' 0 (fun b => decide (b < W.heap.size)) true fn.params.toList args.toList ds p
    rw [hps]
    exact args_again hb hread hA hlt
  · rw [List.append_nil, hsp, hsv]
    exact (rfl : DataW.TrodVars enc Try.prog W' _ [] [] [])
end

end Go.Proofs.Ytjienelkjpodkaa
