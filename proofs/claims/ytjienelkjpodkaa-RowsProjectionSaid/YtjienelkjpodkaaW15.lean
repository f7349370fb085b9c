/- Walks: solvable. -/
import Derived.Test.YtjienelkjpodkaaW13
import Derived.Test.YtjienelkjpodkaaP3
namespace Go.Proofs.Ytjienelkjpodkaa
open Go.RowKit

theorem visit_start (A : Option Addr) (c : Nat) (t2 : Value) (rA : Option Addr) (rn rc : Nat) (aA : Option Addr) (an ac : Nat) (s : Sys) (hs : SysOk s) (hp : prodF s.1 ≤ 16384) (W g : Nat) (pA : Option Addr) (pn pc : Nat) (w : World)
    (hS : Srch w W g ⟨A, s.1.length, c, t2, rA, rn, rc, aA, an, ac, s.1, (startF s).rows, (startF s).at'⟩ pA pn pc (startF s).p) (hW : W ≤ w.heap.size) :
    Calls Try.prog 24 #[.pointer (some ⟨g, 0, none⟩), .agg (bxv (boxF s (startF s).n))] w (VisPost W g ⟨A, s.1.length, c, t2, rA, rn, rc, aA, an, ac, s.1, (startF s).rows, (startF s).at'⟩ pA w (searchF s)) := by
  have hn := start_nums hs
  have hl := hS.len
  have hr : (boxF s (startF s).n).rows = (startF s).n := rfl
  refine visit_c W g ⟨A, s.1.length, c, t2, rA, rn, rc, aA, an, ac, s.1, (startF s).rows, (startF s).at'⟩ (fixOk hs A c t2 rA rn rc aA an ac) (fuelF s) (boxF s (startF s).n) pA pn pc (startF s).p w hS hW (boxF_ok hs) (at_ok hs) (boxF_wid hs _) ?_ ?_
  · show pn + 3 * (boxF s (startF s).n).vol s.1.length ≤ 90000
    rw [boxF_vol hs]; omega
  · show (boxF s (startF s).n).rows + (((boxF s (startF s).n).wid s.1.length : Nat) : Int) ≤ 100000
    rw [hr]; omega

theorem chg_below {w w1 w2 : World} {g : Nat} {F : Fix} {pA : Option Addr} {pn pc : Nat} {p : List Step} (h0 : Below w.heap.size w w1) (h : Srch w1 w.heap.size g F pA pn pc p) (hc : Chg g pA w1 w2) : Below w.heap.size w w2 := by
  obtain ⟨us, ho, _⟩ := h.po
  exact Chg.below h0 hc h.base (fun q hq => (ho.lt q hq).1)

theorem run_makeFunc (fn : Fn) (first cap : Array Value) (w : World) : (Instr.makeFunc fn first cap).run Try.prog w = .ok (.func fn first cap) w := rfl

set_option maxRecDepth 100000 in
set_option maxHeartbeats 1000000 in
/-- 'solvable'. -/
theorem solvable_c (K : Nat → Prop) (A B : Option Addr) (n c m d : Nat) (s : Sys) (w : World) (h : R1 w K A n c s.1) (h' : RR w K B m d s.2) (hs : SysOk s) (hp : prodF s.1 ≤ 16384) :
    Calls Try.prog 32 #[.agg #[.slice A n c, .slice B m d]] w (Gives w (.bool (searchF s).1.isSome)) := by
  obtain rfl := h.len
  have H1 := Lib.hid h
  have H2 := Lib.hid h'
  have HS := Lib.hid hs
  have HP := Lib.hid hp
  have hmf := run_makeFunc
  clear h h' hs hp
  go_enter_defers Try.func32, Try.ntmps32
  have hb0 : Below w.heap.size w ((w.alloc (.cells #[.slice A s.1.length c, .slice B m d] 25)).alloc (.cells #[.bool false] 4)) := ((Below.refl _ _).alloc (Nat.le_refl _) _).alloc (by simp) _
  have hk0 : Blk ((w.alloc (.cells #[.slice A s.1.length c, .slice B m d] 25)).alloc (.cells #[.bool false] 4)) (w.heap.size + 1) 4 #[.bool false] := by
    have := Blk.new (w.alloc (.cells #[.slice A s.1.length c, .slice B m d] 25)) 4 #[.bool false]
    simpa using this
  have hs0 : ((w.alloc (.cells #[.slice A s.1.length c, .slice B m d] 25)).alloc (.cells #[.bool false] 4)).heap.size = w.heap.size + 2 := by simp
  have HB0 := Lib.hid hb0
  have HK0 := Lib.hid hk0
  have HS0 := Lib.hid hs0
  clear hb0 hk0 hs0
  have hsz : (Try.prog.info? 58).map (·.size) = some (bxv (boxF s (startF s).n)).size := by rw [bxv_size (boxF_rows s HS.out _)]; exact size58
  have Hsz := Lib.hid hsz
  clear hsz
  rcases hV : searchF s with ⟨o, p'⟩
  have HV := Lib.hid hV
  clear hV
  cases o with
  | some x =>
    go_wp2_with (first
      | (go_at_call 24
         refine (visit_start A c (.slice B m d) rA rn rc aA an ac s HS.out HP.out _ g pA pn pc w5 HSr5.out (by have := HB5.out.size; omega)).mono ?_
         rw [HV.out]
         rintro e w6 ⟨A6, n6, c6, rfl, hr6, hc6⟩
         have HR6 := Lib.hid hr6
         have HC6 := Lib.hid hc6
         clear hr6 hc6)
      | (refine wpList_store_blk rfl 58 (.tmp 4) (.tmp 10) rfl rfl _ _ cs4 58 rfl rfl Hk4.out Hsz.out (by rw [bxv_size (boxF_rows s HS.out _)]; exact Hcs4.out) (bxv_one _) ?_
         intro w5 hk5 ho5
         have hb5 := below_only Hb4.out ho5 (Nat.le_refl _)
         have HSr5 := Lib.hid (HSr.out.below hb5)
         have HB5 := Lib.hid (HB3.out.trans (hb5.mono HB3.out.size))
         have Hk5 := Lib.hid hk5
         clear hb5 hk5 ho5)
      | (refine wpList_load_blk rfl 58 (.tmp 4) rfl _ rfl 58 (bxv (boxF s (startF s).n)) _ Hk5.out Try.underlying58 rfl Hsz.out ?_)
      | (refine wpList_alloc58 rfl rfl ?_
         intro w4 cs4 hk4 hcs4 hb4 hs4
         have Hk4 := Lib.hid hk4
         have Hcs4 := Lib.hid hcs4
         have Hb4 := Lib.hid hb4
         clear hk4 hcs4 hb4 hs4)
      | (go_at_call 23
         refine (start_c K A B s.1.length c m d s _ (H1.out.below HB0.out) (H2.out.below HB0.out) HS.out).mono ?_
         rintro e w3 ⟨rA, rn, rc, aA, an, ac, g, pA, pn, pc, rfl, hS, hb, hg⟩
         have HSr := Lib.hid hS
         have HB3 := Lib.hid hb
         have Hg := Lib.hid hg
         clear hS hb hg))
    have hb6 := chg_below HB5.out HSr5.out HC6.out
    have hk6 := HK0.out.below hb6 (by have := HS0.out; omega)
    refine leaves_cons (f := 46) (args := #[.pointer (some ⟨w.heap.size + 1, 0, none⟩)]) (by simp) (by simp [go_sem]) ?_
    refine (catch46_panicking ⟨w.heap.size + 1, 0, none⟩ false A6 n6 c6 [] w6 (hk6.cell 0) (hk6.frozen 0)).mono ?_
    rintro e u' w'' ⟨rfl, rfl, rfl⟩
    have hq := (hk6.set_ 0 (.bool true)).cell 0
    have hbb := below_only (HB0.out.trans (hb6.mono HB0.out.size)) (Only.setCell w6 (w.heap.size + 1) 0 (.bool true)) (by omega)
    simp [Leaves, settle, results, Try.results32, go_sem, hq, Gives, hbb]
  | none =>
    go_wp2_with (first
      | (go_at_call 24
         refine (visit_start A c (.slice B m d) rA rn rc aA an ac s HS.out HP.out _ g pA pn pc w5 HSr5.out (by have := HB5.out.size; omega)).mono ?_
         rw [HV.out]
         rintro e w6 ⟨rfl, pA6, pc6, hs6, hc6, hn6⟩
         have hb6 := chg_below HB5.out HSr5.out hc6
         have hk6 := HK0.out.below hb6 (by have := HS0.out; omega)
         have q0 := hk6.cell 0
         have q1 := hk6.frozen 0
         have Hk6 := Lib.hid hk6
         have Hb6 := Lib.hid hb6
         clear hs6 hc6 hn6 hb6 hk6)
      | (refine wpList_store_blk rfl 58 (.tmp 4) (.tmp 10) rfl rfl _ _ cs4 58 rfl rfl Hk4.out Hsz.out (by rw [bxv_size (boxF_rows s HS.out _)]; exact Hcs4.out) (bxv_one _) ?_
         intro w5 hk5 ho5
         have hb5 := below_only Hb4.out ho5 (Nat.le_refl _)
         have HSr5 := Lib.hid (HSr.out.below hb5)
         have HB5 := Lib.hid (HB3.out.trans (hb5.mono HB3.out.size))
         have Hk5 := Lib.hid hk5
         clear hb5 hk5 ho5)
      | (refine wpList_load_blk rfl 58 (.tmp 4) rfl _ rfl 58 (bxv (boxF s (startF s).n)) _ Hk5.out Try.underlying58 rfl Hsz.out ?_)
      | (refine wpList_alloc58 rfl rfl ?_
         intro w4 cs4 hk4 hcs4 hb4 hs4
         have Hk4 := Lib.hid hk4
         have Hcs4 := Lib.hid hcs4
         have Hb4 := Lib.hid hb4
         clear hk4 hcs4 hb4 hs4)
      | (go_at_call 23
         refine (start_c K A B s.1.length c m d s _ (H1.out.below HB0.out) (H2.out.below HB0.out) HS.out).mono ?_
         rintro e w3 ⟨rA, rn, rc, aA, an, ac, g, pA, pn, pc, rfl, hS, hb, hg⟩
         have HSr := Lib.hid hS
         have HB3 := Lib.hid hb
         have Hg := Lib.hid hg
         clear hS hb hg))
    refine leaves_cons (f := 46) (args := #[.pointer (some ⟨w.heap.size + 1, 0, none⟩)]) (by simp) (by simp [go_sem]) ?_
    have hk7 := Hk6.out.set_ 0 (.bool false)
    refine (catch46_idle ⟨w.heap.size + 1, 0, none⟩ false _ (hk7.cell 0) (hk7.frozen 0)).mono ?_
    rintro e u' w'' ⟨rfl, rfl, rfl⟩
    have hq := (hk7.set_ 0 (.bool false)).cell 0
    have hbb := below_only (below_only (HB0.out.trans (Hb6.out.mono HB0.out.size)) (Only.setCell w6 (w.heap.size + 1) 0 (.bool false)) (by omega)) (Only.setCell (w6.setCell ⟨w.heap.size + 1, 0, none⟩ (.bool false)) (w.heap.size + 1) 0 (.bool false)) (by omega)
    simp [Leaves, settle, results, Try.results32, go_sem, hq, Gives, hbb]
end Go.Proofs.Ytjienelkjpodkaa
