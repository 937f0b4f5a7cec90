/- lineage.Within, Compare and the closures over them. -/
import Derived.Test.YtcbgngkalplafaaGreatDoorB1
import Derived.Test.YtcbgngkalplafaaGreatDoorB2
namespace Go.Proofs.YtcbgngkalplafaaGreatDoor
open Go.RowKit Go.Shelf Lin

def withinB (n o : ByteArray) : Bool := validB n && validB o && (comm (ordl n) (ordl o) == (ordl o).length)

theorem Rd.own_int {w : World} {base : Nat} {v : Value} {l : List Int} (h : w.ownsRow base 3 1 v l.length (l.map (Value.int .i64))) : Rd (Value.int .i64) w v l := Rd.of_own h

set_option maxRecDepth 100000 in
set_option maxHeartbeats 4000000 in
theorem within_any (hA : AtoiSaid) (n o : ByteArray) (hn : n.size ≤ 9223372036854775807) (ho : o.size ≤ 9223372036854775807) (w : World) :
    Calls Tryz.prog 37 #[.string n, .string o] w fun e w' => e = .returned (.bool (withinB n o)) ∧ Below w.heap.size w w' := by
  go_enter Tryz.func37, Tryz.ntmps37
  go_wp2_with fail
  refine (valid_any hA n hn _).mono ?_
  rintro e w1 ⟨rfl, hb1⟩
  cases hvn : validB n with
  | false =>
    have HW := Lib.hid (show withinB n o = false by simp [withinB, hvn])
    clear hvn
    go_wp2
    repeat (go_quiet (fail); try go_wp2)
    go_ret
    exact ⟨by rw [HW.out]; rfl, by repeat' (first | exact hb1 | apply bdrew)⟩
  | true =>
    have HVN := Lib.hid hvn
    clear hvn
    go_wp2_with fail
    refine (valid_any hA o ho _).mono ?_
    rintro e w2 ⟨rfl, hb2⟩
    have hb12 := below_then hb1 hb1.size hb2
    cases hvo : validB o with
    | false =>
      have HW := Lib.hid (show withinB n o = false by simp [withinB, hvo])
      clear hvo
      go_wp2
      repeat (go_quiet (fail); try go_wp2)
      go_ret
      exact ⟨by rw [HW.out]; rfl, by repeat' (first | exact hb12 | apply bdrew)⟩
    | true =>
      have HW := Lib.hid (show withinB n o = (comm (ordl n) (ordl o) == (ordl o).length) by simp [withinB, hvo, HVN.out])
      clear hvo
      go_wp2_with fail
      refine (ordinals_any hA o ho _).mono ?_
      rintro e w3 ⟨v, rfl, hb3, hv⟩
      have hb13 := below_then hb12 hb12.size hb3
      have HRo := Lib.hid (Rd.own_int hv)
      obtain ⟨A, c, rfl, hlo⟩ := HRo.out.slice
      clear hv
      go_wp2_with fail
      refine (ordinals_any hA n hn _).mono ?_
      rintro e w4 ⟨v, rfl, hb4, hv⟩
      have hb14 := below_then hb13 hb13.size hb4
      have HRn := Lib.hid (Rd.own_int hv)
      have HRo4 := Lib.hid (HRo.out.below hb4)
      obtain ⟨A', c', rfl, hln⟩ := HRn.out.slice
      clear hv
      go_wp2_with fail
      refine (common_any _ _ _ _ _ HRn.out HRo4.out).mono ?_
      rintro e w5 ⟨rfl, hb5⟩
      have hb15 := below_then hb14 hb14.size hb5
      have HB := Lib.hid (show (((comm (ordl n) (ordl o) : Nat) : Int) == ((ordl o).length : Int)) = withinB n o by
        rw [HW.out, Bool.eq_iff_iff]; simp only [beq_iff_eq]; omega)
      cases hres : withinB n o with
      | true =>
        have hr : (((comm (ordl n) (ordl o) : Nat) : Int) == ((ordl o).length : Int)) = true := by rw [HB.out, hres]
        have HR := Lib.hid hres
        clear hres
        go_wp2
        repeat (go_quiet (fail); try go_wp2)
        go_ret
        exact ⟨by rw [HR.out]; rfl, by repeat' (first | exact hb15 | apply bdrew)⟩
      | false =>
        have hr : (((comm (ordl n) (ordl o) : Nat) : Int) == ((ordl o).length : Int)) = false := by rw [HB.out, hres]
        have HR := Lib.hid hres
        clear hres
        go_wp2
        repeat (go_quiet (fail); try go_wp2)
        go_ret
        exact ⟨by rw [HR.out]; rfl, by repeat' (first | exact hb15 | apply bdrew)⟩

/-- Compare, of two valid names. -/
def cmpN (a b : ByteArray) : Int := lexc (ordl a) (ordl b)
set_option maxRecDepth 100000 in
set_option maxHeartbeats 4000000 in
theorem compare_any (hA : AtoiSaid) (n o : ByteArray) (hn : n.size ≤ 9223372036854775807) (ho : o.size ≤ 9223372036854775807) (hvn : validB n = true) (hvo : validB o = true) (w : World) :
    Calls Tryz.prog 91 #[.string n, .string o] w fun e w' => e = .returned (.int .i64 (cmpN n o)) ∧ Below w.heap.size w w' := by
  have HVN := Lib.hid hvn
  have HVO := Lib.hid hvo
  clear hvn hvo
  go_enter Tryz.func91, Tryz.ntmps91
  go_wp2_with fail
  refine (valid_any hA n hn _).mono ?_
  rintro e w1 ⟨rfl, hb1⟩
  rw [HVN.out]
  go_wp2_with fail
  refine (valid_any hA o ho _).mono ?_
  rintro e w2 ⟨rfl, hb2⟩
  rw [HVO.out]
  have hb12 := below_then hb1 hb1.size hb2
  go_wp2_with fail
  refine (ordinals_any hA n hn _).mono ?_
  rintro e w3 ⟨v, rfl, hb3, hv⟩
  have hb13 := below_then hb12 hb12.size hb3
  have HRo := Lib.hid (Rd.own_int hv)
  obtain ⟨A, c, rfl, hlo⟩ := HRo.out.slice
  clear hv
  go_wp2_with fail
  refine (ordinals_any hA o ho _).mono ?_
  rintro e w4 ⟨v, rfl, hb4, hv⟩
  have hb14 := below_then hb13 hb13.size hb4
  have HRn := Lib.hid (Rd.own_int hv)
  have HRo4 := Lib.hid (HRo.out.below hb4)
  obtain ⟨A', c', rfl, hln⟩ := HRn.out.slice
  clear hv
  go_wp2_with fail
  refine (compareInts_any _ _ _ _ _ HRo4.out HRn.out).mono ?_
  rintro e w5 ⟨rfl, hb5⟩
  have hb15 := below_then hb14 hb14.size hb5
  go_wp2
  go_ret
  exact ⟨rfl, by repeat' (first | exact hb15 | apply bdrew)⟩

set_option maxRecDepth 100000 in
set_option maxHeartbeats 4000000 in
theorem sortc_any (hA : AtoiSaid) (n o : ByteArray) (hn : n.size ≤ 9223372036854775807) (ho : o.size ≤ 9223372036854775807) (hvn : validB n = true) (hvo : validB o = true) (w : World) :
    Calls Tryz.prog 90 #[.string n, .string o] w fun e w' => e = .returned (.int .i64 (cmpN n o)) ∧ Below w.heap.size w w' := by
  go_enter Tryz.func90, Tryz.ntmps90
  go_wp2_with fail
  refine (compare_any hA n o hn ho hvn hvo _).mono ?_
  rintro e w1 ⟨rfl, hb1⟩
  go_wp2
  go_ret
  exact ⟨rfl, hb1⟩

set_option maxRecDepth 100000 in
set_option maxHeartbeats 4000000 in
theorem coversc_any (hA : AtoiSaid) (B : Nat) (n o : ByteArray) (hn : n.size ≤ 9223372036854775807) (ho : o.size ≤ 9223372036854775807) (w : World) (hB : w.cell? ⟨B, 0, none⟩ = some (.string n)) :
    Calls Tryz.prog 39 #[.string o, .pointer (some ⟨B, 0, none⟩)] w fun e w' => e = .returned (.bool (withinB n o)) ∧ Below w.heap.size w w' := by
  go_enter Tryz.func39, Tryz.ntmps39
  go_wp2_with fail
  refine (within_any hA n o hn ho _).mono ?_
  rintro e w1 ⟨rfl, hb1⟩
  go_wp2
  go_ret
  exact ⟨rfl, hb1⟩

set_option maxRecDepth 100000 in
set_option maxHeartbeats 4000000 in
theorem topsc_any (hA : AtoiSaid) (B : Nat) (n o : ByteArray) (hn : n.size ≤ 9223372036854775807) (ho : o.size ≤ 9223372036854775807) (w : World) (hB : w.cell? ⟨B, 0, none⟩ = some (.string n)) :
    Calls Tryz.prog 68 #[.string o, .pointer (some ⟨B, 0, none⟩)] w fun e w' => e = .returned (.bool (decide (o ≠ n) && withinB n o)) ∧ Below w.heap.size w w' := by
  have HE := Lib.hid (show (o.toList == n.toList) = decide (o = n) by
    rw [Lib.toList_data, Lib.toList_data, Bool.eq_iff_iff]
    simp only [beq_iff_eq, decide_eq_true_eq]
    constructor
    · intro h
      cases o; cases n
      simpa using h
    · intro h; rw [h])
  by_cases he : o = n
  · have HT := Lib.hid (show (decide (o ≠ n) && withinB n o) = false by simp [he])
    have ht : (o.toList == n.toList) = true := by rw [HE.out]; simpa using he
    clear he
    go_enter Tryz.func68, Tryz.ntmps68
    go_wp2_with fail
    repeat (go_quiet (fail); try go_wp2_with fail)
    go_ret
    exact ⟨by rw [HT.out]; rfl, by repeat' (first | exact Below.refl _ _ | apply bdrew)⟩
  · have HT := Lib.hid (show (decide (o ≠ n) && withinB n o) = withinB n o by simp [he])
    have ht : (o.toList == n.toList) = false := by rw [HE.out]; simpa using he
    clear he
    go_enter Tryz.func68, Tryz.ntmps68
    go_wp2_with fail
    refine (within_any hA n o hn ho _).mono ?_
    rintro e w1 ⟨rfl, hb1⟩
    go_wp2
    repeat (go_quiet (fail); try go_wp2)
    go_ret
    exact ⟨by rw [HT.out]; rfl, by repeat' (first | exact hb1 | apply bdrew)⟩
end Go.Proofs.YtcbgngkalplafaaGreatDoor
