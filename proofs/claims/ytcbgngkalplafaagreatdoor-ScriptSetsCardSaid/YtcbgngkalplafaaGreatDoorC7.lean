/- Take, HasInput, Empty: on top of canonical. -/
import Derived.Test.YtcbgngkalplafaaGreatDoorC5
namespace Go.Proofs.YtcbgngkalplafaaGreatDoor
open Go.RowKit Go.Shelf Lin

theorem field29_0 (A A' : Option Addr) (n c n' c' : Nat) : ∀ w : World, (Instr.field 29 (.agg #[.slice A n c, .slice A' n' c']) 0).run Tryz.prog w = .ok (.slice A n c) w := fun _ => by kernel_rfl
theorem field29_1 (A A' : Option Addr) (n c n' c' : Nat) : ∀ w : World, (Instr.field 29 (.agg #[.slice A n c, .slice A' n' c']) 1).run Tryz.prog w = .ok (.slice A' n' c') w := fun _ => by kernel_rfl
/-- A value of type Without that reads as these numbers and names. -/
def RdW (w : World) (v : Value) (is : List Int) (ls : List ByteArray) : Prop := ∃ u x, v = .agg #[u, x] ∧ Rd (Value.int .i64) w u is ∧ Rd Value.string w x ls
theorem RdW.below {w w' : World} {v : Value} {is : List Int} {ls : List ByteArray} (h : RdW w v is ls) (hb : Below w.heap.size w w') : RdW w' v is ls := by
  obtain ⟨u, x, e, h1, h2⟩ := h
  exact ⟨u, x, e, h1.below hb, h2.below hb⟩
def canS (is : List Int) (ls : List ByteArray) : List ByteArray := (canN is ls).map (·.1)
theorem CanPost.rd {B : Nat} {is : List Int} {ls : List ByteArray} {w w' : World} {e : Ending} (h : CanPost B is ls w e w') : ∃ v, e = .returned v ∧ RdW w' v (canI is) (canS is ls) ∧ Below B w w' := by
  obtain ⟨v, y, rfl, h1, h2, h3⟩ := h
  exact ⟨_, rfl, ⟨v, y, rfl, Rd.of_own (e := 3) h1, rd_nms h2⟩, h3⟩

set_option maxRecDepth 100000 in
set_option maxHeartbeats 8000000 in
theorem empty_any (is : List Int) (ls : List ByteArray) (hi1 : is.length ≤ 1000000) (hl1 : ls.length ≤ 1000000) (hs : ∀ x ∈ ls, x.size ≤ 9223372036854775807) (v : Value) (w : World) (hT : TabOk w) (hv : RdW w v is ls) :
    Calls Tryz.prog 14 #[v] w fun e w' => e = .returned (.bool (decide (canI is = []) && decide (canS is ls = []))) ∧ Below w.heap.size w w' := by
  obtain ⟨u, x, rfl, hu, hx⟩ := hv
  have hu29 := Tryz.underlying29
  have HU := Lib.hid hu
  have HX := Lib.hid hx
  have HT := Lib.hid hT
  have HS := Lib.hid hs
  obtain ⟨A, c, rfl, hlen⟩ := hu.slice
  obtain ⟨A', c', rfl, hlen'⟩ := hx.slice
  have HB := Lib.hid ((Below.refl w.heap.size w).alloc (Nat.le_refl _) (.cells #[.slice A is.length c, .slice A' ls.length c'] 29))
  clear hu hx hT hs
  generalize hr : (decide (canI is = []) && decide (canS is ls = [])) = r
  have HR := Lib.hid hr
  clear hr
  go_enter Tryz.func14, Tryz.ntmps14
  go_wp2_with fail
  refine (canonical_any is ls hi1 hl1 HS.out _ _ _ (HT.out.below HB.out) (HU.out.below HB.out) (HX.out.below HB.out)).mono ?_
  rintro e w1 ⟨v1, y1, rfl, h1, h2, hb1⟩
  obtain ⟨A1, c1, rfl⟩ := own_slice' h1
  obtain ⟨A2, c2, rfl⟩ := own_slice' h2
  have hh := (hb1.block w.heap.size (by rw [sizeA]; omega)).trans (heapA w (.cells #[.slice A is.length c, .slice A' ls.length c'] 29))
  have hk0 := cell_of_heap hh 0 _ rfl
  have hk1 := cell_of_heap hh 1 _ rfl
  have hz0 := frozen_of hh 0
  have hz1 := frozen_of hh 1
  have hbw := below_then HB.out HB.out.size hb1
  have hL : (canS is ls).length = (canN is ls).length := List.length_map _
  have HL := Lib.hid hL
  clear h1 h2 hL
  by_cases q1 : canI is = []
  · have q1' : (((canI is).length : Int) == 0) = true := by rw [q1]; rfl
    by_cases q2 : canS is ls = []
    · have q2' : (((canN is ls).length : Int) == 0) = true := by rw [← HL.out, q2]; rfl
      have HF := Lib.hid (show r = true by rw [← HR.out, decide_eq_true q1, decide_eq_true q2]; rfl)
      clear q1 q2
      go_wp2_with fail
      repeat (go_quiet (fail); try go_wp2_with fail)
      go_ret
      exact ⟨by rw [HF.out]; rfl, by repeat' (first | exact (hbw.setCell (Nat.le_refl _) _).setCell (Nat.le_refl _) _ | apply bdrew)⟩
    · have q2' : (((canN is ls).length : Int) == 0) = false := by
        rw [beq_eq_false_iff_ne, ← HL.out]
        intro h
        exact q2 (List.eq_nil_of_length_eq_zero (by omega))
      have HF := Lib.hid (show r = false by rw [← HR.out, decide_eq_false q2, Bool.and_false])
      clear q1 q2
      go_wp2_with fail
      repeat (go_quiet (fail); try go_wp2_with fail)
      go_ret
      exact ⟨by rw [HF.out]; rfl, by repeat' (first | exact (hbw.setCell (Nat.le_refl _) _).setCell (Nat.le_refl _) _ | apply bdrew)⟩
  · have q1' : (((canI is).length : Int) == 0) = false := by
      rw [beq_eq_false_iff_ne]
      intro h
      exact q1 (List.eq_nil_of_length_eq_zero (by omega))
    have HF := Lib.hid (show r = false by rw [← HR.out, decide_eq_false q1, Bool.false_and])
    clear q1
    go_wp2_with fail
    repeat (go_quiet (fail); try go_wp2_with fail)
    go_ret
    exact ⟨by rw [HF.out]; rfl, by repeat' (first | exact (hbw.setCell (Nat.le_refl _) _).setCell (Nat.le_refl _) _ | apply bdrew)⟩

set_option maxRecDepth 100000 in
set_option maxHeartbeats 8000000 in
theorem hasInput_any (is : List Int) (ls : List ByteArray) (n : Int) (hi1 : is.length ≤ 1000000) (hl1 : ls.length ≤ 1000000) (hs : ∀ x ∈ ls, x.size ≤ 9223372036854775807) (v : Value) (w : World) (hT : TabOk w) (hv : RdW w v is ls) :
    Calls Tryz.prog 15 #[v, .int .i64 n] w fun e w' => e = .returned (.bool (hasB n (canI is))) ∧ Below w.heap.size w w' := by
  obtain ⟨u, x, rfl, hu, hx⟩ := hv
  have hu29 := Tryz.underlying29
  have HU := Lib.hid hu
  have HX := Lib.hid hx
  have HT := Lib.hid hT
  have HS := Lib.hid hs
  obtain ⟨A, c, rfl, hlen⟩ := hu.slice
  obtain ⟨A', c', rfl, hlen'⟩ := hx.slice
  have HB := Lib.hid ((Below.refl w.heap.size w).alloc (Nat.le_refl _) (.cells #[.slice A is.length c, .slice A' ls.length c'] 29))
  clear hu hx hT hs
  go_enter Tryz.func15, Tryz.ntmps15
  go_wp2_with fail
  refine (canonical_any is ls hi1 hl1 HS.out _ _ _ (HT.out.below HB.out) (HU.out.below HB.out) (HX.out.below HB.out)).mono ?_
  rintro e w1 ⟨v1, y1, rfl, h1, h2, hb1⟩
  have HC := Lib.hid (containsInt_any (canI is) n _ w1 (Rd.of_own (e := 3) h1))
  obtain ⟨A1, c1, rfl⟩ := own_slice' h1
  obtain ⟨A2, c2, rfl⟩ := own_slice' h2
  have hbw := below_then HB.out HB.out.size hb1
  have hfd := field29_0 A1 A2 (canI is).length c1 (canN is ls).length c2
  clear h1 h2
  go_wp2_with fail
  refine HC.out.mono ?_
  rintro e w2 ⟨rfl, hb2⟩
  have hbw2 := below_then hbw hbw.size hb2
  go_wp2_with fail
  go_ret
  exact ⟨rfl, by repeat' (first | exact hbw2 | apply bdrew)⟩
end Go.Proofs.YtcbgngkalplafaaGreatDoor
