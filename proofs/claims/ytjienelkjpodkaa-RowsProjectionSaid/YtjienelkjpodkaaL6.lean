/- The search in memory: a step's field is written; what a visit hands back. -/
import Derived.Test.YtjienelkjpodkaaW10
import Derived.Test.YtjienelkjpodkaaP2
import Derived.Laws.OwnMore
namespace Go.Proofs.Ytjienelkjpodkaa
open Go.RowKit

theorem below_drewN {B : Nat} {a w : World} (h : Below B a w) (n : Nat) : Below B a (w.drewN n) := h.trans ⟨rfl, rfl, rfl, Nat.le_refl _, fun _ _ => rfl⟩
theorem Blk.chg {w w' : World} {g k : Nat} {A : Option Addr} {t : TypeId} {cs : Array Value} (h : Blk w k t cs) (hc : Chg g A w w') (hk : k ≠ g) (hA : obl A ≠ some k) : Blk w' k t cs := (hc.old k hk hA h.lt).trans h
theorem OwnS.addr {w : World} {B : Nat} {e : TypeId} {s : Nat} {A : Option Addr} {n c : Nat} {us : List Value} (h : OwnS w B e s A n c us) (hn : 0 < n) : ∃ q, A = some ⟨q, 0, none⟩ := by
  rcases h.2 with ⟨h0, h1⟩ | ⟨q, cap, cur, hv, _⟩
  · omega
  · cases hv; exact ⟨q, rfl⟩
theorem OwnS.stored {w : World} {B : Nat} {e : TypeId} {s q n c : Nat} {us : List Value} (h : OwnS w B e s (some ⟨q, 0, none⟩) n c us) (j : Nat) (u : Value) : OwnS (w.setCell ⟨q, j, none⟩ u) B e s (some ⟨q, 0, none⟩) n c (us.set j u) :=
  (World.ownsRow.stored h j u).1
theorem OwnS.frozen {w : World} {B : Nat} {e : TypeId} {s q n c : Nat} {us : List Value} (h : OwnS w B e s (some ⟨q, 0, none⟩) n c us) (j : Nat) : w.frozen? ⟨q, j, none⟩ = false := by
  obtain ⟨cur, hc⟩ := h.type rfl
  simp [World.frozen?, hc]

def setEls (p : List Step) (j : Nat) (e : Int) : List Step := p.set j { p.getD j { kind := 0 } with els := e }
theorem AllS.set_els {w : World} {K : Nat → Prop} {us : List Value} {p : List Step} (h : AllS w K us p) {j : Nat} (hj : j < p.length) (e : Int) : AllS w K (us.set (j * 8 + 7) (.int .i64 e)) (setEls p j e) := by
  have hl := h.1
  refine ⟨by simp [setEls, hl], fun i s hs => ?_⟩
  unfold setEls at hs
  by_cases hij : i = j
  · subst hij
    rw [List.getElem?_set_self hj] at hs
    cases hs
    have hp : p[i]? = some (p.getD i { kind := 0 }) := by simp [hj]
    obtain ⟨A, n, c, h1, h2⟩ := h.2 i _ hp
    refine ⟨A, n, c, ?_, h2⟩
    have e1 : (us.set (i * 8 + 7) (.int .i64 e)).drop (i * 8) = (us.drop (i * 8)).set 7 (.int .i64 e) := by
      rw [List.drop_set, if_neg (by omega)]
      congr 1
      omega
    rw [e1, List.take_set, h1]
    rfl
  · rw [List.getElem?_set_ne (Ne.symm hij)] at hs
    obtain ⟨A, n, c, h1, h2⟩ := h.2 i s hs
    refine ⟨A, n, c, ?_, h2⟩
    rw [← h1]
    apply List.ext_getElem?
    intro m
    simp only [List.getElem?_take, List.getElem?_drop]
    by_cases hm : m < 8
    · rw [if_pos hm, if_pos hm, List.getElem?_set_ne (by omega)]
    · rw [if_neg hm, if_neg hm]
theorem setEls_len (p : List Step) (j : Nat) (e : Int) : (setEls p j e).length = p.length := by simp [setEls]

/-- the search behind the store of a step's field -/
theorem Srch.set_els {w w' : World} {B g : Nat} {F : Fix} {q pn pc : Nat} {p : List Step} {e : Int} (h : Srch w B g F (some ⟨q, 0, none⟩) pn pc p) {j : Nat} (hj : j < p.length) (hw : w'.heap = (w.setCell ⟨q, j * 8 + 7, none⟩ (.int .i64 e)).heap) (h1 : w'.os = w.os) (h2 : w'.tape = w.tape) (h3 : w'.output = w.output) :
    Srch w' B g F (some ⟨q, 0, none⟩) pn pc (setEls p j e) ∧ Chg g (some ⟨q, 0, none⟩) w w' := by
  obtain ⟨us, ho, hA⟩ := h.po
  have hne := ownS_ne_blk ho h.blk (by decide)
  have hb : ∀ k, k ≠ q → w'.heap[k]? = w.heap[k]? := fun k hk => by rw [hw]; exact Below.heap_setCell w ⟨q, j * 8 + 7, none⟩ _ k hk
  have hs : w'.heap.size = w.heap.size := by rw [hw]; simp [World.setCell]
  have hc : Chg g (some ⟨q, 0, none⟩) w w' := ⟨h1, h2, h3, by omega, fun k _ hq _ => hb k (fun e => hq (by simp [obl, e]))⟩
  have keep : Old (NK g (some ⟨q, 0, none⟩)) w w' := fun k hk hlt => hc.old k hk.1 hk.2 hlt
  have hs' := ho.stored (j * 8 + 7) (.int .i64 e)
  refine ⟨⟨(hb g (fun e => hne (by simp [obl, e]))).trans h.blk, h.base, h.top.old keep, h.rows.old keep, h.at'.old keep, _, hs'.keep fun k hk => by rw [hw], ?_⟩, hc⟩
  exact (hA.set_els hj e).old keep

/-- a slice that a panic bears -/
def VisPost (B g : Nat) (F : Fix) (pA : Option Addr) (w : World) (V : Option (List Int) × List Step) (e : Ending) (w' : World) : Prop :=
  match V with
  | (none, p') => e = .returned (.tuple #[]) ∧ ∃ pA' pc', Srch w' B g F pA' p'.length pc' p' ∧ Chg g pA w w' ∧ NewOr w pA pA'
  | (some x, _) => ∃ A n c, e = .panicked [{ v := .iface 53 (.agg #[.slice A n c]), recovered := false }] ∧ R1 w' (fun k => w.heap.size ≤ k) A n c x ∧ Chg g pA w w'

structure FixOk (F : Fix) : Prop where
  n12 : F.tn ≤ 12
  len : F.rows.length = F.at'.length
  rows : ∀ r ∈ F.rows, r.1.length ≤ 12 ∧ eachB r.1 (-1000) 1000 = true ∧ -1000000 ≤ r.2 ∧ r.2 ≤ 1000000

theorem visitF_fail {rows : List Row} {at' : List Int} {n k : Nat} {b : Box} {p : List Step} {r : Row} {a : Int} (h : failF rows at' b = some (r, a)) : visitF rows at' n (k + 1) b p = (none, refuteF r a b p) := by
  rw [visitF, h]
theorem visitF_point {rows : List Row} {at' : List Int} {n k : Nat} {b : Box} {p : List Step} (h : failF rows at' b = none) (hf : freeF b.lo b.hi n 0 = none) : visitF rows at' n (k + 1) b p = (some (b.lo.take n), p) := by
  rw [visitF, h]
  simp only [hf]
/-- the step of a split -/
def splitS (i : Nat) (mid : Int) (p : List Step) : Step := { kind := 3, x := i, k := mid, next := p.length + 1 }
theorem visitF_split {rows : List Row} {at' : List Int} {n k i : Nat} {b : Box} {p : List Step} {mid : Int} (h : failF rows at' b = none) (hf : freeF b.lo b.hi n 0 = some i) (hm : mid = (b.lo.getD i 0 + b.hi.getD i 0).tdiv 2) : visitF rows at' n (k + 1) b p =
    match visitF rows at' n k (b.low i mid) (p ++ [splitS i mid p]) with
    | (some x, p2) => (some x, p2)
    | (none, p2) => visitF rows at' n k (b.high i mid) (setEls p2 p.length p2.length) := by
  subst hm
  rw [visitF, h]
  simp only [hf]
  rfl

end Go.Proofs.Ytjienelkjpodkaa
namespace Go.Proofs.Ytjienelkjpodkaa
open Go.RowKit

theorem wpAny_inv {P : Program} {md : Region.Mode} {ops : Array Oper} {Q : Exit → Act → World → Prop} (Inv : Array Bool → Act → World → Prop) (m : Array Bool → Nat)
    (hz : ∀ l a w, Inv l a w → m l = 0 → Region.ready md ops l = []) (hend : ∀ l a w, Inv l a w → Region.ready md ops l = [] → Q .normal a w)
    (hstep : ∀ l a w i, Inv l a w → i ∈ Region.ready md ops l → m (l.setIfInBounds i true) < m l ∧ wpOp P ops Q i (fun a w => Inv (l.setIfInBounds i true) a w) a w) :
    ∀ (fuel : Nat) (l : Array Bool) (a : Act) (w : World), Inv l a w → m l ≤ fuel → wpAny P md ops Q fuel l a w
  | 0, l, a, w, hi, hm => ⟨hz l a w hi (by omega), hend l a w hi (hz l a w hi (by omega))⟩
  | fuel + 1, l, a, w, hi, hm => ⟨hend l a w hi, fun i hr => by
      obtain ⟨h1, h2⟩ := hstep l a w i hi hr
      exact wpOp_mono (fun a' w' h => wpAny_inv Inv m hz hend hstep fuel _ a' w' h (by omega)) h2⟩

theorem zero58' : (Try.prog.info? 58).map (fun i => i.zero.map (fun z => z.cells.size)) = some (some 49) := by kernel_rfl
theorem zero58 : ∃ i z, Try.prog.info? 58 = some i ∧ i.zero = some z ∧ z.cells.size = 49 := by
  have h := zero58'
  cases hi : Try.prog.info? 58 with
  | none => rw [hi] at h; cases h
  | some i =>
    rw [hi] at h
    cases hz : i.zero with
    | none => rw [Option.map_some, hz] at h; cases h
    | some z =>
      rw [Option.map_some, hz, Option.map_some] at h
      exact ⟨i, z, rfl, hz, Option.some.inj (Option.some.inj h)⟩

theorem run_alloc58 {o : Oper} {ρ : Operand → Value} (ho : o.op = .alloc 58) : ∃ cs : Array Value, cs.size = 49 ∧ ∀ w : World, (execOp ρ o).run Try.prog w = .ok (.value (.pointer (some ⟨w.heap.size, 0, none⟩))) (w.alloc (.cells cs 58)) := by
  obtain ⟨i, z, h1, h2, h3⟩ := zero58
  refine ⟨z.cells, h3, fun w => ?_⟩
  unfold execOp
  simp [ho, Instr.alloc, zeroValue, typeInfo, h1, h2, newVar, newRow]

/-- a frame in which four slots have turned -/
def put4 (a : Act) (i j k l : Nat) (x y z u : Value) : Act := { a with tmps := (((a.tmps.setIfInBounds i x).setIfInBounds j y).setIfInBounds k z).setIfInBounds l u }
def own4 (a : Act) (i : Nat) : Value := a.tmps.getD i undef

theorem put4_self (a : Act) (i j k l : Nat) : a = put4 a i j k l (own4 a i) (own4 a j) (own4 a k) (own4 a l) := by
  have key : ∀ (t : Array Value) (i : Nat) (v : Value), t.getD i undef = v → t.setIfInBounds i v = t := by
    intro t i v h
    apply Array.ext_getElem?
    intro m
    rw [Array.getElem?_setIfInBounds]
    by_cases hm : i = m
    · subst hm
      by_cases hs : i < t.size
      · simp [hs] at h ⊢
        exact h.symm
      · simp [hs]
    · simp [hm]
  unfold put4 own4
  rw [key a.tmps i _ rfl, key a.tmps j _ rfl, key a.tmps k _ rfl, key a.tmps l _ rfl]

theorem set_comm4 (t : Array Value) {i j : Nat} (h : i ≠ j) (x y : Value) : (t.setIfInBounds i x).setIfInBounds j y = (t.setIfInBounds j y).setIfInBounds i x := by
  apply Array.ext_getElem?
  intro m
  simp only [Array.getElem?_setIfInBounds, Array.size_setIfInBounds]
  by_cases h1 : i = m <;> by_cases h2 : j = m <;> simp [h1, h2] <;> omega
theorem set_twice (t : Array Value) (i : Nat) (x y : Value) : (t.setIfInBounds i x).setIfInBounds i y = t.setIfInBounds i y := by
  apply Array.ext_getElem?
  intro m
  simp only [Array.getElem?_setIfInBounds, Array.size_setIfInBounds]
  by_cases h1 : i = m <;> simp [h1]

section
variable {a : Act} {i j k l : Nat} {x y z u : Value}
theorem put4_1 (h1 : i ≠ j) (h2 : i ≠ k) (h3 : i ≠ l) (v : Value) : (put4 a i j k l x y z u).put (some i) v = put4 a i j k l v y z u := by
  simp only [put4, Act.put]
  congr 1
  rw [set_comm4 _ (Ne.symm h3), set_comm4 _ (Ne.symm h2), set_comm4 _ (Ne.symm h1), set_twice]
theorem put4_2 (h2 : j ≠ k) (h3 : j ≠ l) (v : Value) : (put4 a i j k l x y z u).put (some j) v = put4 a i j k l x v z u := by
  simp only [put4, Act.put]
  congr 1
  rw [set_comm4 _ (Ne.symm h3), set_comm4 _ (Ne.symm h2), set_twice]
theorem put4_3 (h3 : k ≠ l) (v : Value) : (put4 a i j k l x y z u).put (some k) v = put4 a i j k l x y v u := by
  simp only [put4, Act.put]
  congr 1
  rw [set_comm4 _ (Ne.symm h3), set_twice]
theorem put4_4 (v : Value) : (put4 a i j k l x y z u).put (some l) v = put4 a i j k l x y z v := by
  simp only [put4, Act.put]
  congr 1
  rw [set_twice]
theorem eval_put4 {t : Nat} (h1 : i ≠ t) (h2 : j ≠ t) (h3 : k ≠ t) (h4 : l ≠ t) : (put4 a i j k l x y z u).eval (.tmp t) = a.eval (.tmp t) := by
  simp [put4, Act.eval, h1, h2, h3, h4]
theorem eval_put4_1 (hs : i < a.tmps.size) (h1 : i ≠ j) (h2 : i ≠ k) (h3 : i ≠ l) : (put4 a i j k l x y z u).eval (.tmp i) = x := by
  simp [put4, Act.eval, h1.symm, h2.symm, h3.symm, hs]
theorem eval_put4_2 (hs : j < a.tmps.size) (h2 : j ≠ k) (h3 : j ≠ l) : (put4 a i j k l x y z u).eval (.tmp j) = y := by
  simp [put4, Act.eval, h2.symm, h3.symm, hs]
theorem eval_put4_3 (hs : k < a.tmps.size) (h3 : k ≠ l) : (put4 a i j k l x y z u).eval (.tmp k) = z := by
  simp [put4, Act.eval, h3.symm, hs]
theorem eval_put4_4 (hs : l < a.tmps.size) : (put4 a i j k l x y z u).eval (.tmp l) = u := by
  simp [put4, Act.eval, hs]
end

abbrev pt (g : Nat) : Value := .pointer (some ⟨g, 0, none⟩)
structure TwoInv (w0 : World) (cs : Array Value) (b0 b1 b2 b3 b4 b5 : Bool) (x y z u : Value) (w : World) : Prop where
  below : Below w0.heap.size w0 w
  s0 : b0 = true → x = .agg cs
  s1 : b1 = true → y = .agg cs
  s2 : b2 = true → ∃ g old, z = pt g ∧ w0.heap.size ≤ g ∧ Blk w g 58 old ∧ old.size = 49 ∧ (b4 = true → old = cs)
  s3 : b3 = true → ∃ g old, u = pt g ∧ w0.heap.size ≤ g ∧ Blk w g 58 old ∧ old.size = 49 ∧ (b5 = true → old = cs)
  ne : b2 = true → b3 = true → z ≠ u
  i4 : b4 = true → b2 = true
  i5 : b5 = true → b3 = true

def open6 (l : Array Bool) : Nat := (if l.getD 0 true then 0 else 1) + (if l.getD 1 true then 0 else 1) + (if l.getD 2 true then 0 else 1) + (if l.getD 3 true then 0 else 1) + (if l.getD 4 true then 0 else 1) + (if l.getD 5 true then 0 else 1)

theorem pt_inj {g g' : Nat} (h : pt g = pt g') : g = g' := by cases h; rfl

theorem two_copies {ops : Array Oper} {Q : Exit → Act → World → Prop} {a0 : Act} {w0 : World} {g3 : Nat} {cs : Array Value} (n : Nat) (o0 o1 o2 o3 o4 o5 : Oper) (hops : ops = #[o0, o1, o2, o3, o4, o5])
    (e0 : o0.op = .load 58 (.tmp 3) ∧ o0.dst = some 68 ∧ o0.guard = none) (e1 : o1.op = .load 58 (.tmp 3) ∧ o1.dst = some 69 ∧ o1.guard = none) (e2 : o2.op = .alloc 58 ∧ o2.dst = some 9 ∧ o2.guard = none) (e3 : o3.op = .alloc 58 ∧ o3.dst = some 10 ∧ o3.guard = none)
    (e4 : o4.op = .store 58 (.tmp 9) (.tmp 68) ∧ o4.dst = none ∧ o4.guard = none) (e5 : o5.op = .store 58 (.tmp 10) (.tmp 69) ∧ o5.dst = none ∧ o5.guard = none)
    (rd : ∀ b0 b1 b2 b3 b4 b5 : Bool, ∀ i ∈ Region.ready .any ops #[b0, b1, b2, b3, b4, b5], i < 6 ∧ #[b0, b1, b2, b3, b4, b5][i]? = some false ∧ (i = 4 → b0 = true ∧ b2 = true) ∧ (i = 5 → b1 = true ∧ b3 = true))
    (ra : ∀ b0 b1 b2 b3 b4 b5 : Bool, Region.ready .any ops #[b0, b1, b2, b3, b4, b5] = [] ↔ b0 = true ∧ b1 = true ∧ b2 = true ∧ b3 = true ∧ b4 = true ∧ b5 = true)
    (hk : Blk w0 g3 58 cs) (hcs : cs.size = 49) (h1 : cs.all (·.oneCell') = true) (hs : 70 ≤ a0.tmps.size) (h3 : a0.eval (.tmp 3) = pt g3)
    (h : ∀ g9 g10 w', Below w0.heap.size w0 w' → w0.heap.size ≤ g9 → w0.heap.size ≤ g10 → g9 ≠ g10 → Blk w' g9 58 cs → Blk w' g10 58 cs → Q .normal (put4 a0 68 69 9 10 (.agg cs) (.agg cs) (pt g9) (pt g10)) w') :
    (Code.region n ops true).wp Try.prog Q a0 w0 := by
  have hsz : (Try.prog.info? 58).map (·.size) = some cs.size := by rw [hcs]; exact size58
  refine wp_region_any (by kernel_rfl) ?_
  have hsize : ops.size = 6 := by rw [hops]; rfl
  rw [hsize]
  refine wpAny_inv (fun l a w => ∃ b0 b1 b2 b3 b4 b5 x y z u, l = #[b0, b1, b2, b3, b4, b5] ∧ a = put4 a0 68 69 9 10 x y z u ∧ TwoInv w0 cs b0 b1 b2 b3 b4 b5 x y z u w) open6 ?_ ?_ ?_ 6 _ _ _ ?_ ?_
  · rintro l a w ⟨b0, b1, b2, b3, b4, b5, x, y, z, u, rfl, _, _⟩ hm
    rw [ra]
    cases b0 <;> cases b1 <;> cases b2 <;> cases b3 <;> cases b4 <;> cases b5 <;> first | exact ⟨rfl, rfl, rfl, rfl, rfl, rfl⟩ | (exfalso; revert hm; decide)
  · rintro l a w ⟨b0, b1, b2, b3, b4, b5, x, y, z, u, rfl, rfl, hi⟩ hr
    obtain ⟨rfl, rfl, rfl, rfl, rfl, rfl⟩ := (ra ..).1 hr
    obtain ⟨g9, old, rfl, hg9, hk9, _, hc9⟩ := hi.s2 rfl
    obtain ⟨g10, old', rfl, hg10, hk10, _, hc10⟩ := hi.s3 rfl
    rw [hi.s0 rfl, hi.s1 rfl]
    rw [hc9 rfl] at hk9
    rw [hc10 rfl] at hk10
    exact h g9 g10 w hi.below hg9 hg10 (fun e => hi.ne rfl rfl (by rw [e])) hk9 hk10
  · rintro l a w i ⟨b0, b1, b2, b3, b4, b5, x, y, z, u, rfl, rfl, hi⟩ hr
    obtain ⟨hi6, hfalse, h4, h5⟩ := rd _ _ _ _ _ _ _ hr
    have hkw : Blk w g3 58 cs := hk.old hi.below
    have hgl := hk.lt
    have hsb := hi.below.size
    have heq : (put4 a0 68 69 9 10 x y z u).eval (.tmp 3) = pt g3 := by rw [eval_put4 (by decide) (by decide) (by decide) (by decide)]; exact h3
    have hne : ∀ g, w0.heap.size ≤ g → g ≠ g3 := fun g hg => by omega
    have hi' : i = 0 ∨ i = 1 ∨ i = 2 ∨ i = 3 ∨ i = 4 ∨ i = 5 := by omega
    rcases hi' with rfl | rfl | rfl | rfl | rfl | rfl
    · cases b0 with
      | true => simp at hfalse
      | false =>
      refine ⟨by cases b1 <;> cases b2 <;> cases b3 <;> cases b4 <;> cases b5 <;> decide, wpOp_value (o := o0) (by rw [hops]; rfl) e0.2.2 (run_load_blk 58 (.tmp 3) e0.1 g3 heq 58 cs _ hkw Try.underlying58 rfl hsz) ?_⟩
      refine ⟨true, b1, b2, b3, b4, b5, .agg cs, y, z, u, rfl, ?_, ⟨hi.below, fun _ => rfl, hi.s1, hi.s2, hi.s3, hi.ne, hi.i4, hi.i5⟩⟩
      rw [e0.2.1, put4_1 (by decide) (by decide) (by decide)]
    · cases b1 with
      | true => simp at hfalse
      | false =>
      refine ⟨by cases b0 <;> cases b2 <;> cases b3 <;> cases b4 <;> cases b5 <;> decide, wpOp_value (o := o1) (by rw [hops]; rfl) e1.2.2 (run_load_blk 58 (.tmp 3) e1.1 g3 heq 58 cs _ hkw Try.underlying58 rfl hsz) ?_⟩
      refine ⟨b0, true, b2, b3, b4, b5, x, .agg cs, z, u, rfl, ?_, ⟨hi.below, hi.s0, fun _ => rfl, hi.s2, hi.s3, hi.ne, hi.i4, hi.i5⟩⟩
      rw [e1.2.1, put4_2 (by decide) (by decide)]
    · cases b2 with
      | true => simp at hfalse
      | false =>
      obtain ⟨zs, hzs, hrun⟩ := run_alloc58 (ρ := (put4 a0 68 69 9 10 x y z u).eval) e2.1
      refine ⟨by cases b0 <;> cases b1 <;> cases b3 <;> cases b4 <;> cases b5 <;> decide, wpOp_value (o := o2) (by rw [hops]; rfl) e2.2.2 (hrun w) ?_⟩
      have hb4 : b4 = true → False := fun e => by have := hi.i4 e; cases this
      refine ⟨b0, b1, true, b3, b4, b5, x, y, pt w.heap.size, u, rfl, ?_, ⟨hi.below.alloc hsb _, hi.s0, hi.s1, fun _ => ⟨_, zs, rfl, hsb, Blk.new _ _ _, hzs, fun e => (hb4 e).elim⟩, fun e => ?_, fun _ e he => ?_, fun _ => rfl, hi.i5⟩⟩
      · rw [e2.2.1, put4_3 (by decide)]
      · obtain ⟨g, old, r1, r2, r3, r4⟩ := hi.s3 e
        exact ⟨g, old, r1, r2, r3.alloc _, r4⟩
      · obtain ⟨g, old, r1, r2, r3, r4⟩ := hi.s3 e
        have := r3.lt
        have := pt_inj (he.trans r1)
        omega
    · cases b3 with
      | true => simp at hfalse
      | false =>
      obtain ⟨zs, hzs, hrun⟩ := run_alloc58 (ρ := (put4 a0 68 69 9 10 x y z u).eval) e3.1
      refine ⟨by cases b0 <;> cases b1 <;> cases b2 <;> cases b4 <;> cases b5 <;> decide, wpOp_value (o := o3) (by rw [hops]; rfl) e3.2.2 (hrun w) ?_⟩
      have hb5 : b5 = true → False := fun e => by have := hi.i5 e; cases this
      refine ⟨b0, b1, b2, true, b4, b5, x, y, z, pt w.heap.size, rfl, ?_, ⟨hi.below.alloc hsb _, hi.s0, hi.s1, fun e => ?_, fun _ => ⟨_, zs, rfl, hsb, Blk.new _ _ _, hzs, fun e => (hb5 e).elim⟩, fun e _ he => ?_, hi.i4, fun _ => rfl⟩⟩
      · rw [e3.2.1, put4_4]
      · obtain ⟨g, old, r1, r2, r3, r4⟩ := hi.s2 e
        exact ⟨g, old, r1, r2, r3.alloc _, r4⟩
      · obtain ⟨g, old, r1, r2, r3, r4⟩ := hi.s2 e
        have := r3.lt
        have := pt_inj (r1.symm.trans he)
        omega
    · obtain ⟨q0, q2⟩ := h4 rfl
      subst q0 q2
      cases b4 with
      | true => simp at hfalse
      | false =>
      obtain ⟨g, old, rfl, r2, r3, r4, _⟩ := hi.s2 rfl
      have hx : x = .agg cs := hi.s0 rfl
      refine ⟨by cases b1 <;> cases b3 <;> cases b5 <;> decide, wpOp_store_blk (o := o4) (by rw [hops]; rfl) e4.2.2 58 (.tmp 9) (.tmp 68) e4.1 e4.2.1 g cs old 58 (eval_put4_3 (by omega) (by decide)) ((eval_put4_1 (by omega) (by decide) (by decide) (by decide)).trans hx) r3 hsz (by omega) h1 ?_⟩
      intro w' hk' ho'
      refine ⟨true, b1, true, b3, true, b5, x, y, pt g, u, rfl, rfl, ⟨below_only hi.below ho' r2, hi.s0, hi.s1, fun _ => ⟨g, cs, rfl, r2, hk', hcs, fun _ => rfl⟩, fun e => ?_, hi.ne, fun _ => rfl, hi.i5⟩⟩
      obtain ⟨g', old', t1, t2, t3, t4⟩ := hi.s3 e
      exact ⟨g', old', t1, t2, t3.only ho' (fun e' => hi.ne rfl e (by rw [t1, e'])), t4⟩
    · obtain ⟨q1, q3⟩ := h5 rfl
      subst q1 q3
      cases b5 with
      | true => simp at hfalse
      | false =>
      obtain ⟨g, old, rfl, r2, r3, r4, _⟩ := hi.s3 rfl
      have hy : y = .agg cs := hi.s1 rfl
      refine ⟨by cases b0 <;> cases b2 <;> cases b4 <;> decide, wpOp_store_blk (o := o5) (by rw [hops]; rfl) e5.2.2 58 (.tmp 10) (.tmp 69) e5.1 e5.2.1 g cs old 58 (eval_put4_4 (by omega)) ((eval_put4_2 (by omega) (by decide) (by decide)).trans hy) r3 hsz (by omega) h1 ?_⟩
      intro w' hk' ho'
      refine ⟨b0, true, b2, true, b4, true, x, y, z, pt g, rfl, rfl, ⟨below_only hi.below ho' r2, hi.s0, hi.s1, fun e => ?_, fun _ => ⟨g, cs, rfl, r2, hk', hcs, fun _ => rfl⟩, hi.ne, hi.i4, fun _ => rfl⟩⟩
      obtain ⟨g', old', t1, t2, t3, t4⟩ := hi.s2 e
      exact ⟨g', old', t1, t2, t3.only ho' (fun e' => hi.ne e rfl (by rw [t1, e'])), t4⟩
  · refine ⟨false, false, false, false, false, false, _, _, _, _, rfl, put4_self a0 68 69 9 10, ⟨Below.refl _ _ |>.drew, ?_, ?_, ?_, ?_, ?_, ?_, ?_⟩⟩ <;> intro e <;> cases e
  · decide

end Go.Proofs.Ytjienelkjpodkaa
