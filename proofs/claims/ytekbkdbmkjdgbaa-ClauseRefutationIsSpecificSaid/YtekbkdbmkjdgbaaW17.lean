/- Walks of the reference: next, model. -/
import Derived.Test.YtekbkdbmkjdgbaaW16
import Derived.Test.YtekbkdbmkjdgbaaP4
namespace Go.Proofs.Ytekbkdbmkjdgbaa
open Go.RowKit

def bv (m : List Bool) : Array Value := (m.map Value.bool).toArray
theorem bv_size (m : List Bool) : (bv m).size = m.length := by simp [bv]
theorem bv_get {m : List Bool} {i : Nat} (h : i < m.length) : (bv m)[i]? = some (.bool (m.getD i false)) := by
  simp [bv, h]
theorem bv_set (m : List Bool) (i : Nat) (x : Bool) : (bv m).setIfInBounds i (.bool x) = bv (m.set i x) := by
  simp [bv, List.map_set]
theorem Blk.rb {w : World} {g n c : Nat} {m : List Bool} (h : Blk w g 4 (bv m)) (hl : m.length = n) (hc : n ≤ c) (hb : n ≤ 140737488355328) (ht : c ≤ 9223372036854775807) : RB w (fun _ => True) (some ⟨g, 0, none⟩) n c m :=
  ⟨hl, hc, hb, ht, fun j u hu => ⟨_, rfl, trivial, by
    have e : (⟨g, 0, none⟩ : Addr).add j = ⟨g, j, none⟩ := by
      unfold Addr.add
      by_cases hj : j = 0
      · simp [hj]
      · simp [hj]
    rw [e, h.cell]
    simpa [bv] using hu⟩⟩

theorem Only.trans {g : Nat} {w w' w'' : World} (h : Only g w w') (h' : Only g w' w'') : Only g w w'' :=
  ⟨h'.os.trans h.os, h'.tape.trans h.tape, h'.output.trans h.output, h'.size.trans h.size, fun k hk => (h'.block k hk).trans (h.block k hk)⟩
theorem Only.refl (g : Nat) (w : World) : Only g w w := ⟨rfl, rfl, rfl, rfl, fun _ _ => rfl⟩

structure NxRel (w wr : World) (g n k : Nat) (m m0 : List Bool) : Prop where
  blk : Blk wr g 4 (bv m)
  only : Only g w wr
  len : m.length = n
  rest : nextF m k = nextF m0 n

def NextPost (g : Nat) (w : World) (r : List Bool × Bool) (e : Ending) (w' : World) : Prop := e = .returned (.bool r.2) ∧ Blk w' g 4 (bv r.1) ∧ Only g w w'

set_option maxHeartbeats 1000000 in
/-- 'next'. -/
theorem next_c (g n c : Nat) (m0 : List Bool) (w : World) (h : Blk w g 4 (bv m0)) (hl : m0.length = n) (hn : n ≤ 140737488355328) (hc : n ≤ c) (hct : c ≤ 9223372036854775807) :
    Calls Try.prog 58 #[.slice (some ⟨g, 0, none⟩) n c] w (NextPost g w (nextF m0 n)) := by
  have HS := Lib.hid (show NxRel w w g n n m0 m0 from ⟨h, Only.refl _ _, hl, rfl⟩)
  clear h hl
  go_enter Try.func58, Try.ntmps58
  go_wp2
  go_loopw [3] (fun s3 wr => ∃ (k : Nat) (m : List Bool), k ≤ n ∧ s3 = .int .i64 ((k : Int) - 1) ∧ NxRel w wr g n k m m0) (fun s3 _ => (intOf s3 + 1).toNat)
  case atStart => exact ⟨n, m0, Nat.le_refl _, rfl, HS.out⟩
  case round =>
    clear HS
    obtain ⟨k, m, hk, rfl, hq⟩ := hrel
    have HQ := Lib.hid hq
    clear hq
    cases k with
    | zero =>
      have e : (((0 : Nat) : Int) - 1) = -1 := rfl
      rw [e]
      clear e
      go_wp2
      go_ret
      have hr := HQ.out.rest
      rw [nextF] at hr
      rw [← hr]
      exact ⟨by rfl, HQ.out.blk, HQ.out.only⟩
    | succ k =>
      have e : (((k + 1 : Nat) : Int) - 1) = (k : Int) := by omega
      rw [e]
      clear e
      have hcell : wr.cell? ⟨g, k, none⟩ = some (.bool (m.getD k false)) := by
        rw [HQ.out.blk.cell, bv_get (by have := HQ.out.len; omega)]
      have hr := HQ.out.rest
      rw [nextF] at hr
      cases hb : m.getD k false
      · rw [hb] at hr hcell
        have HR := Lib.hid hr
        clear hr hb
        go_wp2_with (refine wpList_store_at rfl 4 (.tmp 18) (.const (.bool true)) rfl rfl g k (.bool true) (bv m) 4 rfl rfl HQ.out.blk (by have := HQ.out.len; rw [bv_size]; omega) (by kernel_rfl) rfl ?_; intro w6 hb6 ho6; have HB6 := Lib.hid hb6; have HO6 := Lib.hid ho6; clear hb6 ho6)
        go_ret
        have hr := HR.out
        rw [if_neg (by simp)] at hr
        have hb6 := HB6.out
        rw [bv_set] at hb6
        rw [← hr]
        exact ⟨by rfl, hb6, HQ.out.only.trans HO6.out⟩
      · rw [hb] at hr hcell
        have HR := Lib.hid hr
        clear hr hb
        go_wp2_with (refine wpList_store_at rfl 4 (.tmp 21) (.const (.bool false)) rfl rfl g k (.bool false) (bv m) 4 rfl rfl HQ.out.blk (by have := HQ.out.len; rw [bv_size]; omega) (by kernel_rfl) rfl ?_; intro w6 hb6 ho6; have HB6 := Lib.hid hb6; have HO6 := Lib.hid ho6; clear hb6 ho6)
        have hr := HR.out
        rw [if_pos rfl] at hr
        have hb6 := HB6.out
        rw [bv_set] at hb6
        go_roundw
        case rel => exact ⟨k, m.set k false, by omega, by go_num, hb6, HQ.out.only.trans HO6.out, by simpa using HQ.out.len, hr⟩
        case measure => simp [intOf] <;> omega

def ModelPost (w : World) : Option (List Bool) → Ending → World → Prop
  | none, e, w' => e = .returned (.tuple #[.slice none 0 0, .bool false]) ∧ Below w.heap.size w w'
  | some a, e, w' => ∃ A n c, e = .returned (.tuple #[.slice A n c, .bool true]) ∧ RB w' (fun _ => True) A n c a ∧ Below w.heap.size w w'

structure MoRel (w wr : World) (f : List (List Int)) (R : Option (List Bool)) (g n q : Nat) (ch : Bool) (a : List Bool) : Prop where
  below : Below w.heap.size w wr
  blk : Blk wr g 4 (bv a)
  lo : w.heap.size ≤ g
  len : a.length = n
  on : ch = true → rmodelF f q a = R ∧ rank a + q = 2 ^ n
  off : ch = false → R = none

theorem MoRel.pos {w wr : World} {f : List (List Int)} {R : Option (List Bool)} {g n q : Nat} {a : List Bool} (h : MoRel w wr f R g n q true a) : ∃ q', q = q' + 1 := by
  have h1 := (h.on rfl).2
  have h2 := rank_lt a
  rw [h.len] at h2
  exact ⟨q - 1, by omega⟩
theorem MoRel.hit {w wr : World} {f : List (List Int)} {R : Option (List Bool)} {g n q : Nat} {a : List Bool} (h : MoRel w wr f R g n (q + 1) true a) (hs : satF a f = true) : R = some a := by
  rw [← (h.on rfl).1, rmodelF, if_pos hs]
theorem MoRel.step {w wr w2 : World} {f : List (List Int)} {R : Option (List Bool)} {g n q : Nat} {a : List Bool} (h : MoRel w wr f R g n (q + 1) true a) (hs : satF a f = false) (hb : Blk w2 g 4 (bv (nextF a n).1)) (ho : Only g wr w2) :
    MoRel w w2 f R g n q (nextF a n).2 (nextF a n).1 := by
  have h1 := (h.on rfl).1
  have h2 := (h.on rfl).2
  have hl := h.len
  subst hl
  rw [rmodelF, if_neg (by simp [hs])] at h1
  rw [nextF_eq] at *
  refine ⟨below_only h.below ho h.lo, hb, h.lo, succL_length a, fun hc => ?_, fun hc => ?_⟩
  · rw [if_pos hc] at h1
    exact ⟨h1, by rw [succL_true hc]; omega⟩
  · rw [if_neg (by simp [hc])] at h1
    exact h1.symm
theorem rank_replicate : ∀ (n : Nat), rank (List.replicate n false) = 0
  | 0 => rfl
  | n + 1 => by simp [List.replicate_succ, rank, rank_replicate n]

set_option maxHeartbeats 1000000 in
/-- 'model'. -/
theorem model_c (K : Nat → Prop) (A : Option Addr) (n c nn : Nat) (f : List (List Int)) (w : World) (h : R2 w K A n c f) (hv : f.all (fun l => l.all (wi nn)) = true) (hnn : nn ≤ 16) :
    Calls Try.prog 39 #[.slice A n c, .int .i64 nn] w (ModelPost w (rleast f nn)) := by
  have HV := Lib.hid hv
  have HF := Lib.hid h
  generalize hR : rleast f nn = R
  have HR := Lib.hid hR
  clear hv h hR
  go_enter Try.func39, Try.ntmps39
  go_wp2_with (refine wpList_makeFull rfl (.tmp 8) (.tmp 8) 23 rfl (.bool false) Try.underlying23 info4 rfl nn rfl rfl (by omega) (by omega) ?_; intro w5 hk hb hs; have HK5 := Lib.hid hk; have HB5 := Lib.hid hb; clear hk hb hs)
  have HS := Lib.hid (show MoRel w w5 f R w.heap.size nn (2 ^ nn) true (List.replicate nn false) from ⟨HB5.out, by have := HK5.out; rw [bv, List.map_replicate]; exact this, Nat.le_refl _, by simp, fun _ => ⟨HR.out, by rw [rank_replicate]; omega⟩, fun e => (by cases e)⟩)
  clear HK5 HB5 HR
  generalize w.heap.size = g at *
  generalize 2 ^ nn = q0 at *
  generalize List.replicate nn false = a0 at *
  go_loopg [7] q0 (fun q s7 wr => ∃ (ch : Bool) (a : List Bool), s7 = .bool ch ∧ MoRel w wr f R g nn q ch a)
  case atStart => exact ⟨true, a0, rfl, HS.out⟩
  case round =>
    clear HS
    obtain ⟨ch, a, rfl, hq⟩ := hrel
    obtain ⟨wo, rfl⟩ : ∃ wo : World, wo = wr := ⟨_, rfl⟩
    have HQ := Lib.hid hq
    clear hq
    cases ch
    · go_wp2
      go_ret2
      rw [HQ.out.off rfl]
      exact ⟨by rfl, HQ.out.below⟩
    · obtain ⟨q, rfl⟩ := HQ.out.pos
      have HRb := Lib.hid (HQ.out.blk.rb HQ.out.len (Nat.le_refl _) (by omega) (by omega))
      have HSa := Lib.hid (rsat_c K (fun _ => True) A (some ⟨g, 0, none⟩) n c nn nn f a wo (HF.out.below HQ.out.below) HRb.out HV.out)
      cases hs : satF a f
      · rw [hs] at HSa
        have HSt := Lib.hid fun w2 => HQ.out.step (w2 := w2) hs
        have HN := Lib.hid (next_c g nn nn a wo HQ.out.blk HQ.out.len (by omega) (Nat.le_refl _) (by omega))
        clear hs
        generalize nextF a nn = r at *
        obtain ⟨a2, ch2⟩ := r
        go_wp2_with (first | (go_at_call 48; refine HSa.out.mono ?_; rintro e w' ⟨rfl, rfl⟩) | (go_at_call 58; refine HN.out.mono ?_; rintro e w6 ⟨rfl, hb, ho⟩; have HB6 := Lib.hid hb; have HO6 := Lib.hid ho; clear hb ho))
        go_roundg q
        case measure => go_light; omega
        case rel => go_light; exact ⟨ch2, a2, rfl, HSt.out _ HB6.out HO6.out⟩
      · rw [hs] at HSa
        have HSt := Lib.hid (HQ.out.hit hs)
        clear hs
        go_wp2_with (go_at_call 48; refine HSa.out.mono ?_; rintro e w' ⟨rfl, rfl⟩)
        go_ret2
        rw [HSt.out]
        exact ⟨_, _, _, by rfl, HRb.out, HQ.out.below⟩

end Go.Proofs.Ytekbkdbmkjdgbaa
