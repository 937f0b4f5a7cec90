/- Loops over slices that are read: lineage.common, slices.Compare. -/
import Derived.Test.YtcbgngkalplafaaGreatDoorRd
import Derived.BigQuiet
namespace Go.Proofs.YtcbgngkalplafaaGreatDoor
open Go.RowKit Go.Shelf

theorem bdrew {B : Nat} {a w : World} (h : Below B a w) (n : Nat) : Below B a (w.drewN n) := ⟨h.os, h.tape, h.output, h.size, h.block⟩

/-- How long the two lists begin alike. -/
def comm {α : Type} [DecidableEq α] : List α → List α → Nat
  | a :: l, b :: m => if a = b then comm l m + 1 else 0
  | _, _ => 0

theorem comm_le {α : Type} [DecidableEq α] (l m : List α) : comm l m ≤ l.length ∧ comm l m ≤ m.length := by
  induction l generalizing m with
  | nil => simp [comm]
  | cons a l ih =>
    cases m with
    | nil => simp [comm]
    | cons b m =>
      have := ih m
      simp only [comm, List.length_cons]
      split <;> omega
theorem comm_lt {α : Type} [DecidableEq α] (l m : List α) (j : Nat) (h : j < comm l m) (h1 : j < l.length) (h2 : j < m.length) : l[j] = m[j] := by
  induction l generalizing m j with
  | nil => simp at h1
  | cons a l ih =>
    cases m with
    | nil => simp at h2
    | cons b m =>
      simp only [comm] at h
      split at h
      · cases j with
        | zero => simpa
        | succ j => simpa using ih m j (by omega) (by simpa using h1) (by simpa using h2)
      · omega
theorem comm_at {α : Type} [DecidableEq α] (l m : List α) (h1 : comm l m < l.length) (h2 : comm l m < m.length) : l[comm l m] ≠ m[comm l m] := by
  induction l generalizing m with
  | nil => simp at h1
  | cons a l ih =>
    cases m with
    | nil => simp at h2
    | cons b m =>
      by_cases e : a = b
      · have he : comm (a :: l) (b :: m) = comm l m + 1 := by simp [comm, e]
        simp only [he, List.length_cons, List.getElem_cons_succ] at h1 h2 ⊢
        exact ih m (by omega) (by omega)
      · have he : comm (a :: l) (b :: m) = 0 := by simp [comm, e]
        simp only [he, List.getElem_cons_zero]
        exact e

set_option maxRecDepth 100000 in
set_option maxHeartbeats 4000000 in
theorem common_any (l m : List Int) (u v : Value) (w : World) (hu : Rd (Value.int .i64) w u l) (hv : Rd (Value.int .i64) w v m) :
    Calls Tryz.prog 72 #[u, v] w fun e w' => e = .returned (.int .i64 (comm l m)) ∧ Below w.heap.size w w' := by
  obtain ⟨A, c, rfl, hl⟩ := hu.slice
  obtain ⟨A', c', rfl, hm⟩ := hv.slice
  have HU := Lib.hid hu
  have HV := Lib.hid hv
  clear hu hv
  go_enter Tryz.func72, Tryz.ntmps72
  go_wp2
  go_loopw [5] (fun a wr => ∃ j : Nat, a = .int .i64 j ∧ j ≤ comm l m ∧ Below w.heap.size w wr) (fun a _ => comm l m - (intOf a).toNat)
  case atStart => exact ⟨0, rfl, by omega, Below.refl _ _⟩
  case round =>
    obtain ⟨j, rfl, hj, hb⟩ := hrel
    have hc := comm_le l m
    by_cases h1 : j < l.length
    · have h1' : (j : Int) < (l.length : Int) := by omega
      obtain ⟨-, -, b, off, rfl, hx⟩ := (HU.out.below hb).at (by omega)
      have hx := hx j h1
      by_cases h2 : j < m.length
      · have h2' : (j : Int) < (m.length : Int) := by omega
        obtain ⟨-, -, b', off', rfl, hy⟩ := (HV.out.below hb).at (by omega)
        have hy := hy j h2
        by_cases h3 : j < comm l m
        · have he : (l[j] == m[j]) = true := by simp [comm_lt l m j h3 h1 h2]
          go_wp2
          repeat (go_quiet (fail); try go_wp2)
          go_round
          case rel => exact ⟨j + 1, by go_num, by omega, bdrew hb _⟩
          case measure => simp [intOf]; omega
        · obtain rfl : j = comm l m := by omega
          have he : (l[comm l m] == m[comm l m]) = false := by simpa using comm_at l m h1 h2
          go_wp2
          repeat (go_quiet (fail); try go_wp2)
          go_ret
          exact ⟨rfl, bdrew hb _⟩
      · have h2' : ¬ (j : Int) < (m.length : Int) := by omega
        obtain rfl : j = comm l m := by omega
        go_wp2
        repeat (go_quiet (fail); try go_wp2)
        go_ret
        exact ⟨rfl, bdrew hb _⟩
    · have h1' : ¬ (j : Int) < (l.length : Int) := by omega
      obtain rfl : j = comm l m := by omega
      go_wp2
      repeat (go_quiet (fail); try go_wp2)
      go_ret
      exact ⟨rfl, bdrew hb _⟩

/-- The order of lists of numbers. -/
def lexc : List Int → List Int → Int
  | [], [] => 0
  | [], _ :: _ => -1
  | _ :: _, [] => 1
  | a :: l, b :: m => if a < b then -1 else if b < a then 1 else lexc l m
def cmpi (a b : Int) : Int := if a < b then -1 else if b < a then 1 else 0

theorem lexc_comm (l m : List Int) : lexc l m = if h1 : comm l m < l.length then (if h2 : comm l m < m.length then cmpi l[comm l m] m[comm l m] else 1) else (if l.length < m.length then -1 else 0) := by
  induction l generalizing m with
  | nil => cases m <;> simp [lexc, comm]
  | cons a l ih =>
    cases m with
    | nil => simp [lexc, comm]
    | cons b m =>
      by_cases e : a = b
      · have he : comm (a :: l) (b :: m) = comm l m + 1 := by simp [comm, e]
        have h2 : lexc (a :: l) (b :: m) = lexc l m := by simp [lexc, e]
        rw [h2, ih m]
        simp only [he, List.length_cons, List.getElem_cons_succ, Nat.add_lt_add_iff_right]
      · have he : comm (a :: l) (b :: m) = 0 := by simp [comm, e]
        simp only [he, List.length_cons, List.getElem_cons_zero, Nat.zero_lt_succ, dif_pos, lexc, cmpi]
        by_cases h : a < b
        · simp [h]
        · have : b < a := by omega
          simp [h, this]

set_option maxHeartbeats 4000000 in
theorem cmpInt_any (a b : Int) (w : World) : Calls Tryz.prog 148 #[.int .i64 a, .int .i64 b] w fun e w' => e = .returned (.int .i64 (cmpi a b)) ∧ Below w.heap.size w w' := by
  rcases Int.lt_trichotomy a b with h | h | h
  · have HC := Lib.hid (show cmpi a b = -1 by simp [cmpi, h])
    go_enter Tryz.func148, Tryz.ntmps148
    go_wp2
    repeat (go_quiet (fail); try go_wp2)
    go_ret
    exact ⟨by rw [HC.out]; rfl, by repeat' (first | exact Below.refl _ _ | apply bdrew)⟩
  · have HC := Lib.hid (show cmpi a b = 0 by simp [cmpi, h])
    have h1 : ¬ a < b := by omega
    have h2 : ¬ b < a := by omega
    clear h
    go_enter Tryz.func148, Tryz.ntmps148
    go_wp2
    repeat (go_quiet (fail); try go_wp2)
    go_ret
    exact ⟨by rw [HC.out]; rfl, by repeat' (first | exact Below.refl _ _ | apply bdrew)⟩
  · have HC := Lib.hid (show cmpi a b = 1 by
      have : ¬ a < b := by omega
      simp [cmpi, h, this])
    have h1 : ¬ a < b := by omega
    go_enter Tryz.func148, Tryz.ntmps148
    go_wp2
    repeat (go_quiet (fail); try go_wp2)
    go_ret
    exact ⟨by rw [HC.out]; rfl, by repeat' (first | exact Below.refl _ _ | apply bdrew)⟩
theorem cmpi_eq (a : Int) : cmpi a a = 0 := by simp [cmpi]
theorem cmpi_ne {a b : Int} (h : a ≠ b) : cmpi a b ≠ 0 := by
  unfold cmpi
  split
  · simp
  · split
    · simp
    · omega

set_option maxRecDepth 100000 in
set_option maxHeartbeats 4000000 in
theorem compareInts_any (l m : List Int) (u v : Value) (w : World) (hu : Rd (Value.int .i64) w u l) (hv : Rd (Value.int .i64) w v m) :
    Calls Tryz.prog 117 #[u, v] w fun e w' => e = .returned (.int .i64 (lexc l m)) ∧ Below w.heap.size w w' := by
  obtain ⟨A, c, rfl, hl⟩ := hu.slice
  obtain ⟨A', c', rfl, hm⟩ := hv.slice
  have HU := Lib.hid hu
  have HV := Lib.hid hv
  have HX := Lib.hid (lexc_comm l m)
  clear hu hv
  go_enter Tryz.func117, Tryz.ntmps117
  go_wp2
  go_loopw [11] (fun a wr => ∃ j : Nat, a = .int .i64 j ∧ j ≤ comm l m ∧ Below w.heap.size w wr) (fun a _ => comm l m - (intOf a).toNat)
  case atStart => exact ⟨0, rfl, by omega, Below.refl _ _⟩
  case round =>
    obtain ⟨j, rfl, hj, hb⟩ := hrel
    have hc := comm_le l m
    by_cases h1 : j < l.length
    · have h1' : (j : Int) < (l.length : Int) := by omega
      obtain ⟨-, -, b, off, rfl, hx⟩ := (HU.out.below hb).at (by omega)
      have hx := hx j h1
      by_cases h2 : j < m.length
      · have h2' : ¬ (m.length : Int) ≤ (j : Int) := by omega
        have h2'' : (j : Int) < (m.length : Int) := by omega
        obtain ⟨-, -, b', off', rfl, hy⟩ := (HV.out.below hb).at (by omega)
        have hy := hy j h2
        by_cases h3 : j < comm l m
        · have he : l[j] = m[j] := comm_lt l m j h3 h1 h2
          have HE := Lib.hid he
          clear he
          go_wp2_with fail
          repeat (go_quiet (fail); try go_wp2_with fail)
          refine (cmpInt_any _ _ _).mono ?_
          rintro e w2 ⟨rfl, hb2⟩
          have hb3 := below_then hb hb.size hb2
          rw [HE.out, cmpi_eq]
          go_wp2
          repeat (go_quiet (fail); try go_wp2)
          go_round
          case rel => exact ⟨j + 1, by go_num, by omega, by repeat' (first | exact hb3 | apply bdrew)⟩
          case measure => simp [intOf]; omega
        · obtain rfl : j = comm l m := by omega
          have hne := comm_at l m h1 h2
          have hz := cmpi_ne hne
          have hz2 : (cmpi l[comm l m] m[comm l m] == 0) = false := by simpa using hz
          have HY := Lib.hid (show lexc l m = cmpi l[comm l m] m[comm l m] by rw [HX.out, dif_pos h1, dif_pos h2])
          clear hne hz
          go_wp2_with fail
          repeat (go_quiet (fail); try go_wp2_with fail)
          refine (cmpInt_any _ _ _).mono ?_
          rintro e w2 ⟨rfl, hb2⟩
          have hb3 := below_then hb hb.size hb2
          go_wp2
          repeat (go_quiet (fail); try go_wp2)
          go_ret
          exact ⟨by rw [HY.out]; rfl, by repeat' (first | exact hb3 | apply bdrew)⟩
      · have h2' : (m.length : Int) ≤ (j : Int) := by omega
        obtain rfl : j = comm l m := by omega
        have HY := Lib.hid (show lexc l m = 1 by rw [HX.out, dif_pos h1, dif_neg h2])
        go_wp2
        repeat (go_quiet (fail); try go_wp2)
        go_ret
        exact ⟨by rw [HY.out]; rfl, by repeat' (first | exact hb | apply bdrew)⟩
    · have h1' : ¬ (j : Int) < (l.length : Int) := by omega
      obtain rfl : j = comm l m := by omega
      have hcl : comm l m = l.length := by omega
      by_cases h2 : l.length < m.length
      · have h2' : (l.length : Int) < (m.length : Int) := by omega
        have HY := Lib.hid (show lexc l m = -1 by rw [HX.out, dif_neg h1, if_pos h2])
        clear hcl
        go_wp2
        repeat (go_quiet (fail); try go_wp2)
        go_ret
        exact ⟨by rw [HY.out]; rfl, by repeat' (first | exact hb | apply bdrew)⟩
      · have h2' : ¬ (l.length : Int) < (m.length : Int) := by omega
        have HY := Lib.hid (show lexc l m = 0 by rw [HX.out, dif_neg h1, if_neg h2])
        clear hcl
        go_wp2
        repeat (go_quiet (fail); try go_wp2)
        go_ret
        exact ⟨by rw [HY.out]; rfl, by repeat' (first | exact hb | apply bdrew)⟩
end Go.Proofs.YtcbgngkalplafaaGreatDoor
