/- Walks: slices.DeleteFunc, for Core. -/
import Derived.Test.YtekbkdbmkjdgbaaW7
import Derived.Lib.SliceRun
namespace Go.Proofs.Ytekbkdbmkjdgbaa
open Go.RowKit

/-- the closure of Core -/
theorem del_c (g : Nat) (k i : Int) (w : World) (h : Blk w g 3 #[.int .i64 i]) :
    Calls Try.prog 55 #[.int .i64 k, .pointer (some ⟨g, 0, none⟩)] w fun e w' => e = .returned (.bool (k == i)) ∧ w = w' := by
  have c1 : w.cell? ⟨g, 0, none⟩ = some (.int .i64 i) := h.cell 0
  clear h
  go_enter Try.func55, Try.ntmps55
  go_wp2
  go_ret
  exact ⟨rfl, rfl⟩

def DelIdx (l : List Int) (i : Int) (w : World) (e : Ending) (w' : World) : Prop :=
  w = w' ∧ ((e = .returned (.int .i64 (-1)) ∧ ¬ i ∈ l) ∨ ∃ q : Nat, e = .returned (.int .i64 q) ∧ l[q]? = some i ∧ ¬ i ∈ l.take q)

theorem indexDel_c (K : Nat → Prop) (A : Option Addr) (n c : Nat) (l : List Int) (g : Nat) (t : Int) (w : World) (h : R1 w K A n c l) (hg : Blk w g 3 #[.int .i64 t]) :
    Calls Try.prog 63 #[.slice A n c, .func (.func 55) #[] #[.pointer (some ⟨g, 0, none⟩)]] w (DelIdx l t w) := by
  have hbig := h.big
  have hcap := h.cap
  have HG := Lib.hid hg
  clear hg
  go_enter Try.func63, Try.ntmps63
  go_wp2
  go_loop [8] (fun i => ∃ k : Nat, k ≤ n ∧ i = .int .i64 k ∧ ¬ t ∈ l.take k) (fun i => n - (intOf i).toNat)
  case atStart => exact ⟨0, Nat.zero_le _, rfl, by simp⟩
  case round =>
    obtain ⟨k, hk, rfl, hnt⟩ := hrel
    have H := Lib.hid hnt
    clear hnt
    by_cases hlt : k < n
    · obtain ⟨ad, x, rfl, _, hx, hw, hcell⟩ := h.at_ hlt
      have HX := Lib.hid (take_snoc_of hx)
      have Hx := Lib.hid hx
      have HC := Lib.hid (del_c g x t w HG.out)
      clear hx h hw
      by_cases hxt : x = t
      · have b1 : (x == t) = true := by simp [hxt]
        have Hxt := Lib.hid hxt
        clear hxt
        go_wp2_with (go_at_call 55; refine HC.out.mono ?_; rintro e w' ⟨rfl, rfl⟩)
        go_ret
        exact ⟨rfl, .inr ⟨k, rfl, by rw [Hx.out, Hxt.out], H.out⟩⟩
      · have b1 : (x == t) = false := by simp [hxt]
        go_wp2_with (go_at_call 55; refine HC.out.mono ?_; rintro e w' ⟨rfl, rfl⟩)
        go_round
        case rel =>
          refine ⟨k + 1, by omega, by go_num, ?_⟩
          rw [HX.out]
          have := H.out
          have hne : t ≠ x := fun e => hxt e.symm
          simp [this, hne]
        case measure => simp [intOf]; omega
    · go_wp2
      go_ret
      have hl := h.len
      have := H.out
      rw [List.take_of_length_le (by omega)] at this
      exact ⟨rfl, .inl ⟨rfl, this⟩⟩

/-- the row while it is being filtered: z: what lies in it now -/
structure DelRel (w wr : World) (b : Nat) (z : List Value) (l : List Int) (t : Int) (c i j : Nat) : Prop where
  blk : Blk wr b 3 z.toArray
  size : z.length = c
  only : Only b w wr
  front : z.take i = ((l.take j).filter (· != t)).map (Value.int .i64)
  back : ∀ q, j ≤ q → q < l.length → z[q]? = some (.int .i64 (l.getD q 0))
  le : i ≤ j
  len : i = ((l.take j).filter (· != t)).length

def DelPost (l : List Int) (t : Int) (base : Nat) (A : Option Addr) (c : Nat) (w : World) (e : Ending) (w' : World) : Prop :=
  ∃ n', e = .returned (.slice A n' c) ∧ Own w' base 3 A n' c ((l.filter (· != t)).map (Value.int .i64)) ∧ w.grownBy w' (obl A)

theorem filter_absent {l : List Int} {t : Int} (h : ¬ t ∈ l) : l.filter (· != t) = l := by
  rw [List.filter_eq_self]
  intro x hx
  simp; rintro rfl; exact h hx
theorem DelRel.start {w : World} {b : Nat} {z : List Value} {l : List Int} {t : Int} {c q : Nat} (hb : Blk w b 3 z.toArray) (hz : z.length = c) (hzl : z.take l.length = l.map (Value.int .i64)) (hq : l[q]? = some t) (hn : ¬ t ∈ l.take q) : DelRel w w b z l t c q (q + 1) := by
  have hlt : q < l.length := (List.getElem?_eq_some_iff.1 hq).1
  have hf : (l.take (q + 1)).filter (· != t) = l.take q := by
    rw [take_snoc_of hq, List.filter_append, filter_absent hn]; simp
  refine ⟨hb, hz, ⟨rfl, rfl, rfl, rfl, fun _ _ => rfl⟩, ?_, ?_, by omega, ?_⟩
  · rw [hf]
    have h1 : z.take q = (z.take l.length).take q := by rw [List.take_take, Nat.min_eq_left (by omega)]
    rw [h1, hzl, List.map_take]
  · intro p hp hpl
    have h1 : z[p]? = (z.take l.length)[p]? := by rw [List.getElem?_take, if_pos hpl]
    rw [h1, hzl]
    simp [hpl]
  · rw [hf, List.length_take]; omega
theorem DelRel.skip {w wr : World} {b : Nat} {z : List Value} {l : List Int} {t : Int} {c i j : Nat} (h : DelRel w wr b z l t c i j) (hj : l[j]? = some t) : DelRel w wr b z l t c i (j + 1) := by
  have hf : (l.take (j + 1)).filter (· != t) = (l.take j).filter (· != t) := by
    rw [take_snoc_of hj, List.filter_append]; simp
  exact ⟨h.blk, h.size, h.only, by rw [hf]; exact h.front, fun q hq hl => h.back q (by omega) hl, by have := h.le; omega, by rw [hf]; exact h.len⟩
theorem DelRel.keep {w wr w' : World} {b : Nat} {z : List Value} {l : List Int} {t x : Int} {c i j : Nat} (h : DelRel w wr b z l t c i j) (hj : l[j]? = some x) (hx : x ≠ t) (hc : l.length ≤ c) (hb : Blk w' b 3 (z.toArray.setIfInBounds i (.int .i64 x))) (ho : Only b wr w') :
    DelRel w w' b (z.set i (.int .i64 x)) l t c (i + 1) (j + 1) := by
  have hlt : j < l.length := (List.getElem?_eq_some_iff.1 hj).1
  have hle := h.le
  have hsz := h.size
  have hf : (l.take (j + 1)).filter (· != t) = (l.take j).filter (· != t) ++ [x] := by
    rw [take_snoc_of hj, List.filter_append]; simp [hx]
  refine ⟨by simpa using hb, by simpa using h.size, ⟨ho.os.trans h.only.os, ho.tape.trans h.only.tape, ho.output.trans h.only.output, ho.size.trans h.only.size, fun k hk => (ho.block k hk).trans (h.only.block k hk)⟩, ?_, ?_, by omega, ?_⟩
  · rw [hf, List.map_append, List.take_add_one]
    have h1 : (z.set i (.int .i64 x)).take i = z.take i := by
      rw [List.take_set]
      apply List.set_eq_of_length_le
      simp
      omega
    rw [h1, h.front]
    simp [show i < z.length by omega]
  · intro q hq hl
    rw [List.getElem?_set_ne (by omega)]
    exact h.back q (by omega) hl
  · rw [hf, List.length_append, ← h.len]; rfl

theorem setCells_blk {t : TypeId} {b : Nat} : ∀ (vs : List Value) (o : Nat) (w : World) (cs : Array Value), Blk w b t cs → ∃ cs' : Array Value, Blk (w.setCells b o vs) b t cs' ∧ cs'.size = cs.size ∧ (∀ q, q < o → cs'[q]? = cs[q]?) ∧ Only b w (w.setCells b o vs)
  | [], o, w, cs, h => ⟨cs, h, rfl, fun _ _ => rfl, ⟨rfl, rfl, rfl, rfl, fun _ _ => rfl⟩⟩
  | v :: vs, o, w, cs, h => by
    obtain ⟨cs', h1, h2, h3, h4⟩ := setCells_blk vs (o + 1) (w.setCell ⟨b, o, none⟩ v) _ (h.set_ o v)
    have ho := Only.setCell w b o v
    rw [World.setCells]
    refine ⟨cs', h1, by simpa using h2, fun q hq => ?_, ⟨h4.os.trans ho.os, h4.tape.trans ho.tape, h4.output.trans ho.output, h4.size.trans ho.size, fun k hk => (h4.block k hk).trans (ho.block k hk)⟩⟩
    rw [h3 q (by omega), Array.getElem?_setIfInBounds_ne (by omega)]

theorem zero3 (w : World) : (zeroValue 3).run Try.prog w = .ok (.int .i64 0) w := by kernel_rfl

theorem del_end {w wr : World} {base b c i n : Nat} {z : List Value} {l : List Int} {t : Int} (h : DelRel w wr b z l t c i n) (hn : l.length = n) (hbase : base ≤ b) (hmax : c ≤ maxLen) (hic : i ≤ c) (vs : List Value) :
    DelPost l t base (some ⟨b, 0, none⟩) c w (.returned (.slice (some ⟨b, 0, none⟩) i c)) (wr.setCells b i vs) := by
  obtain ⟨cs', h1, h2, h3, h4⟩ := setCells_blk vs i wr _ h.blk
  have hfl : l.take n = l := List.take_of_length_le (by omega)
  have hlen := h.len
  have hfr := h.front
  rw [hfl] at hlen hfr
  refine ⟨i, rfl, ⟨by rw [List.length_map, ← hlen]; omega, .inr ⟨b, c, cs', rfl, hbase, h1, hic, hmax, by rw [h2]; have := h.size; simp; omega, ?_⟩⟩, ⟨h4.os.trans h.only.os, h4.tape.trans h.only.tape, h4.output.trans h.only.output, by rw [h4.size, h.only.size]; exact Nat.le_refl _, fun k _ hk => ?_⟩⟩
  · rw [← hfr]
    apply List.ext_getElem?
    intro q
    rw [List.getElem?_take, List.getElem?_take]
    by_cases hq : q < i
    · rw [if_pos (by omega), if_pos hq]
      have := h3 q hq
      simpa using this
    · rw [if_neg (by omega), if_neg hq]
  · have hkb : k ≠ b := fun e => hk (by rw [e]; rfl)
    exact (h4.block k hkb).trans (h.only.block k hkb)

set_option maxHeartbeats 1000000 in
theorem delete_c (base : Nat) (A : Option Addr) (n c : Nat) (l : List Int) (g : Nat) (t : Int) (w : World) (h : Own w base 3 A n c (l.map (Value.int .i64))) (hg : Blk w g 3 #[.int .i64 t]) (hne : obl A ≠ some g) (hn : n ≤ 1000000) (hwf : ∀ x ∈ l, I64 x) :
    Calls Try.prog 53 #[.slice A n c, .func (.func 55) #[] #[.pointer (some ⟨g, 0, none⟩)]] w (DelPost l t base A c w) := by
  have hr1 : R1 w (fun _ => True) A n c l := h.r1 (fun _ _ => trivial) (by omega) hwf
  have HC := Lib.hid (indexDel_c _ A n c l g t w hr1 hg)
  have hlen := hr1.len
  have hcap := hr1.cap
  have htop := hr1.top
  have HO := Lib.hid h
  have HL := Lib.hid hlen
  clear hr1 h hlen
  by_cases hm : t ∈ l
  · obtain ⟨b, cap, cur, hv, hbase, hblk, hle, hmax, hsz, htk⟩ : ∃ b cap cur, Value.slice A n c = .slice (some ⟨b, 0, none⟩) n cap ∧ base ≤ b ∧ w.heap[b]? = some (.cells cur 3 (0, 0)) ∧ n ≤ cap ∧ cap ≤ maxLen ∧ cur.size = cap * 1 ∧ cur.toList.take (n * 1) = l.map (Value.int .i64) := by
      rcases HO.out.2 with ⟨h0, h1⟩ | h0
      · have := HL.out
        have hl0 : l = [] := List.eq_nil_of_length_eq_zero (by omega)
        rw [hl0] at hm; cases hm
      · exact h0
    cases hv
    have HW := Lib.hid hwf
    have HB := Lib.hid (And.intro hbase hmax)
    have HBlk := Lib.hid (show Blk w b 3 cur.toList.toArray from by unfold Blk; simpa using hblk)
    have HSz := Lib.hid (show cur.toList.length = c by simpa using hsz)
    have HTk := Lib.hid (show cur.toList.take l.length = l.map (Value.int .i64) by rw [HL.out]; simpa using htk)
    have hgb : g ≠ b := fun e => hne (by rw [e]; rfl)
    clear hbase hblk hmax hsz htk hwf hle hne
    generalize cur.toList = z0 at *
    go_enter Try.func53, Try.ntmps53
    go_wp2_with fail
    refine HC.out.mono ?_
    rintro e w1 ⟨rfl, hd⟩
    rcases hd with ⟨rfl, hd⟩ | ⟨q, rfl, hq, hqn⟩
    · exact absurd hm hd
    · have hqm : ((q : Int) == -1) = false := by simp
      have hql : q < n := by have := (List.getElem?_eq_some_iff.1 hq).1; have := HL.out; omega
      have HD := Lib.hid (DelRel.start HBlk.out HSz.out HTk.out hq hqn)
      clear hq hqn
      go_wp2
      go_loopw [5, 6] (fun s5 s6 wr => ∃ (i j : Nat) (z : List Value), i < j ∧ j ≤ n ∧ s5 = .int .i64 i ∧ s6 = .int .i64 j ∧ DelRel w wr b z l t c i j) (fun _ s6 _ => n - (intOf s6).toNat)
      case atStart => exact ⟨q, q + 1, z0, by omega, by omega, rfl, by go_num, HD.out⟩
      case round =>
        clear HD
        obtain ⟨i, j, z, hij, hjn, rfl, rfl, hd⟩ := hrel
        have HR := Lib.hid hd
        clear hd
        by_cases hlt : j < n
        · have hlj : l[j]? = some (l.getD j 0) := by
            have : j < l.length := by have := HL.out; omega
            simp [List.getD_eq_getElem?_getD, this]
          have hcell : wr.cell? ⟨b, j, none⟩ = some (.int .i64 (l.getD j 0)) := by
            rw [HR.out.blk.cell]
            have := HR.out.back j (Nat.le_refl _) (by have := HL.out; omega)
            simpa using this
          have HJ := Lib.hid hlj
          have HCd := Lib.hid (del_c g (l.getD j 0) t wr (hg.only HR.out.only hgb))
          clear hlj
          generalize l.getD j 0 = x at *
          by_cases hxt : x = t
          · have b1 : (x == t) = true := by simp [hxt]
            have Hxt := Lib.hid hxt
            clear hxt
            go_wp2_with (go_at_call 55; refine HCd.out.mono ?_; rintro e w' ⟨rfl, rfl⟩)
            go_roundw
            case rel => exact ⟨i, j + 1, z, by omega, by omega, rfl, by go_num, HR.out.skip (by rw [HJ.out, Hxt.out])⟩
            case measure => simp [intOf]; omega
          · have b1 : (x == t) = false := by simp [hxt]
            go_wp2_with (first | (go_at_call 55; refine HCd.out.mono ?_; rintro e w' ⟨rfl, rfl⟩) | (refine wpList_store_at rfl 3 (.tmp 33) (.tmp 32) rfl rfl b i (.int .i64 x) z.toArray 3 rfl rfl HR.out.blk (by have := HR.out.size; simp; omega) (by kernel_rfl) rfl ?_; intro w6 hb6 ho6; have HB6 := Lib.hid hb6; have HO6 := Lib.hid ho6; clear hb6 ho6))
            go_roundw
            case rel => exact ⟨i + 1, j + 1, z.set i (.int .i64 x), by omega, by omega, by go_num, by go_num, HR.out.keep HJ.out hxt (by have := HL.out; omega) HB6.out HO6.out⟩
            case measure => simp [intOf]; omega
        · obtain rfl : n = j := by omega
          have hsz := HR.out.size
          have hcl := Lib.run_clear_slice wr 32 3 0 (.int .i64 0) Try.underlying32 zero3 rfl rfl b i (n - i) (c - i) (by omega) (fun p hp => by
              rw [HR.out.blk.cell]
              have : i + p < z.length := by omega
              simp [this]) (fun p _ => HR.out.blk.frozen _)
          clear hsz
          go_wp2
          go_ret
          exact del_end HR.out HL.out HB.out.1 HB.out.2 (by omega) _
  · go_enter Try.func53, Try.ntmps53
    go_wp2_with fail
    refine HC.out.mono ?_
    rintro e w1 ⟨rfl, hd⟩
    rcases hd with ⟨rfl, _⟩ | ⟨q, rfl, hq, _⟩
    · go_wp2
      go_ret
      have hf : l.filter (· != t) = l := by
        rw [List.filter_eq_self]
        intro x hx
        simp; rintro rfl; exact hm hx
      exact ⟨n, rfl, by rw [hf]; exact HO.out, World.grownBy.refl w _⟩
    · exact absurd (List.mem_of_getElem? hq) hm

end Go.Proofs.Ytekbkdbmkjdgbaa
