/- The law's plain loops over lists. -/
import Derived.Test.YtcbgngkalplafaaGreatDoorB2
namespace Go.Proofs.YtcbgngkalplafaaGreatDoor
open Go.RowKit Go.Shelf

theorem comm_eq {α : Type} [DecidableEq α] (l m : List α) (h : l.length = m.length) : comm l m = l.length ↔ l = m := by
  constructor
  · intro hc
    apply List.ext_getElem h
    intro i h1 h2
    exact comm_lt l m i (by omega) h1 h2
  · rintro rfl
    clear h
    induction l with
    | nil => rfl
    | cons a l ih => simp [comm, ih]

set_option maxRecDepth 100000 in
set_option maxHeartbeats 4000000 in
theorem sameNumbers_any (l m : List Int) (u v : Value) (w : World) (hu : Rd (Value.int .i64) w u l) (hv : Rd (Value.int .i64) w v m) :
    Calls Tryz.prog 12 #[u, v] w fun e w' => e = .returned (.bool (decide (l = m))) ∧ Below w.heap.size w w' := by
  obtain ⟨A, c, rfl, hl⟩ := hu.slice
  obtain ⟨A', c', rfl, hm⟩ := hv.slice
  have HU := Lib.hid hu
  have HV := Lib.hid hv
  clear hu hv
  by_cases hlen : l.length = m.length
  · have HE := Lib.hid (comm_eq l m hlen)
    have hlb : ((l.length : Int) == (m.length : Int)) = true := by rw [beq_iff_eq]; omega
    go_enter Tryz.func12, Tryz.ntmps12
    go_wp2
    repeat (go_quiet (fail); try go_wp2)
    go_loopw [5] (fun a wr => ∃ j : Nat, a = .int .i64 j ∧ j ≤ comm l m ∧ Below w.heap.size w wr) (fun a _ => comm l m - (intOf a).toNat)
    case atStart => exact ⟨0, rfl, by omega, by repeat' (first | exact Below.refl _ _ | apply bdrew)⟩
    case round =>
      obtain ⟨j, rfl, hj, hb⟩ := hrel
      have hc := comm_le l m
      by_cases h1 : j < l.length
      · have h1' : (j : Int) < (l.length : Int) := by omega
        obtain ⟨-, -, b, off, rfl, hx⟩ := (HU.out.below hb).at (by omega)
        have hx := hx j h1
        have h2 : j < m.length := by omega
        have h2' : (j : Int) < (m.length : Int) := by omega
        obtain ⟨-, -, b', off', rfl, hy⟩ := (HV.out.below hb).at (by omega)
        have hy := hy j h2
        by_cases h3 : j < comm l m
        · have he : (l[j] == m[j]) = true := by simp [comm_lt l m j h3 h1 h2]
          go_wp2
          repeat (go_quiet (fail); try go_wp2)
          go_round
          case rel => exact ⟨j + 1, by go_num, by omega, by repeat' (first | exact hb | apply bdrew)⟩
          case measure => simp [intOf]; omega
        · obtain rfl : j = comm l m := by omega
          have he : (l[comm l m] == m[comm l m]) = false := by simpa using comm_at l m h1 h2
          have HN := Lib.hid (show decide (l = m) = false by
            rw [decide_eq_false_iff_not, ← HE.out]; omega)
          go_wp2
          repeat (go_quiet (fail); try go_wp2)
          go_ret
          exact ⟨by rw [HN.out]; rfl, by repeat' (first | exact hb | apply bdrew)⟩
      · have h1' : ¬ (j : Int) < (l.length : Int) := by omega
        have HN := Lib.hid (show decide (l = m) = true by
          rw [decide_eq_true_eq, ← HE.out]; omega)
        go_wp2
        repeat (go_quiet (fail); try go_wp2)
        go_ret
        exact ⟨by rw [HN.out]; rfl, by repeat' (first | exact hb | apply bdrew)⟩
  · have hlb : ((l.length : Int) == (m.length : Int)) = false := by rw [beq_eq_false_iff_ne]; omega
    have HN := Lib.hid (show decide (l = m) = false by
      rw [decide_eq_false_iff_not]; intro h; rw [h] at hlen; exact hlen rfl)
    go_enter Tryz.func12, Tryz.ntmps12
    go_wp2
    repeat (go_quiet (fail); try go_wp2)
    go_ret
    exact ⟨by rw [HN.out]; rfl, by repeat' (first | exact Below.refl _ _ | apply bdrew)⟩

theorem str_eq (a b : ByteArray) : (a.toList == b.toList) = decide (a = b) := by
  rw [Lib.toList_data, Lib.toList_data, Bool.eq_iff_iff]
  simp only [beq_iff_eq, decide_eq_true_eq]
  constructor
  · intro h
    cases a; cases b
    simpa using h
  · intro h; rw [h]

set_option maxRecDepth 100000 in
set_option maxHeartbeats 4000000 in
theorem sameNames_any (l m : List ByteArray) (u v : Value) (w : World) (hu : Rd Value.string w u l) (hv : Rd Value.string w v m) :
    Calls Tryz.prog 13 #[u, v] w fun e w' => e = .returned (.bool (decide (l = m))) ∧ Below w.heap.size w w' := by
  obtain ⟨A, c, rfl, hl⟩ := hu.slice
  obtain ⟨A', c', rfl, hm⟩ := hv.slice
  have HU := Lib.hid hu
  have HV := Lib.hid hv
  clear hu hv
  by_cases hlen : l.length = m.length
  · have HE := Lib.hid (comm_eq l m hlen)
    have hlb : ((l.length : Int) == (m.length : Int)) = true := by rw [beq_iff_eq]; omega
    go_enter Tryz.func13, Tryz.ntmps13
    go_wp2
    repeat (go_quiet (fail); try go_wp2)
    go_loopw [5] (fun a wr => ∃ j : Nat, a = .int .i64 j ∧ j ≤ comm l m ∧ Below w.heap.size w wr) (fun a _ => comm l m - (intOf a).toNat)
    case atStart => exact ⟨0, rfl, by omega, by repeat' (first | exact Below.refl _ _ | apply bdrew)⟩
    case round =>
      obtain ⟨j, rfl, hj, hb⟩ := hrel
      have hc := comm_le l m
      by_cases h1 : j < l.length
      · have h1' : (j : Int) < (l.length : Int) := by omega
        obtain ⟨-, -, b, off, rfl, hx⟩ := (HU.out.below hb).at (by omega)
        have hx := hx j h1
        have h2 : j < m.length := by omega
        have h2' : (j : Int) < (m.length : Int) := by omega
        obtain ⟨-, -, b', off', rfl, hy⟩ := (HV.out.below hb).at (by omega)
        have hy := hy j h2
        by_cases h3 : j < comm l m
        · have he : (l[j].toList == m[j].toList) = true := by rw [str_eq, comm_lt l m j h3 h1 h2]; simp
          go_wp2
          repeat (go_quiet (fail); try go_wp2)
          go_round
          case rel => exact ⟨j + 1, by go_num, by omega, by repeat' (first | exact hb | apply bdrew)⟩
          case measure => simp [intOf]; omega
        · obtain rfl : j = comm l m := by omega
          have he : (l[comm l m].toList == m[comm l m].toList) = false := by rw [str_eq]; simpa using comm_at l m h1 h2
          have HN := Lib.hid (show decide (l = m) = false by
            rw [decide_eq_false_iff_not, ← HE.out]; omega)
          go_wp2
          repeat (go_quiet (fail); try go_wp2)
          go_ret
          exact ⟨by rw [HN.out]; rfl, by repeat' (first | exact hb | apply bdrew)⟩
      · have h1' : ¬ (j : Int) < (l.length : Int) := by omega
        have HN := Lib.hid (show decide (l = m) = true by
          rw [decide_eq_true_eq, ← HE.out]; omega)
        go_wp2
        repeat (go_quiet (fail); try go_wp2)
        go_ret
        exact ⟨by rw [HN.out]; rfl, by repeat' (first | exact hb | apply bdrew)⟩
  · have hlb : ((l.length : Int) == (m.length : Int)) = false := by rw [beq_eq_false_iff_ne]; omega
    have HN := Lib.hid (show decide (l = m) = false by
      rw [decide_eq_false_iff_not]; intro h; rw [h] at hlen; exact hlen rfl)
    go_enter Tryz.func13, Tryz.ntmps13
    go_wp2
    repeat (go_quiet (fail); try go_wp2)
    go_ret
    exact ⟨by rw [HN.out]; rfl, by repeat' (first | exact Below.refl _ _ | apply bdrew)⟩

/-- n lies in l. -/
def hasB {α : Type} [DecidableEq α] (n : α) (l : List α) : Bool := l.any fun x => decide (x = n)
/-- Where n lies first; the length if nowhere. -/
def at1 {α : Type} [DecidableEq α] (n : α) (l : List α) : Nat := l.findIdx fun x => decide (x = n)
section
variable {α : Type} [DecidableEq α] (n : α) (l : List α)
theorem at1_le : at1 n l ≤ l.length := List.findIdx_le_length
theorem at1_lt (j : Nat) (h : j < at1 n l) (hl : j < l.length) : l[j] ≠ n := by
  have := List.not_of_lt_findIdx h
  simpa using this
theorem at1_at (h : at1 n l < l.length) : l[at1 n l] = n := by
  have := List.findIdx_getElem (p := fun x => decide (x = n)) (xs := l) (w := h)
  rw [decide_eq_true_eq] at this
  exact this
theorem hasB_iff : hasB n l = true ↔ n ∈ l := by
  unfold hasB
  rw [List.any_eq_true]
  constructor
  · rintro ⟨x, hx, h⟩
    rw [decide_eq_true_eq] at h
    rw [← h]; exact hx
  · intro h
    exact ⟨n, h, by simp⟩
theorem at1_mem : at1 n l < l.length ↔ hasB n l = true := by
  unfold at1 hasB
  rw [List.findIdx_lt_length, List.any_eq_true]
end

set_option maxRecDepth 100000 in
set_option maxHeartbeats 4000000 in
theorem has_any (l : List Int) (n : Int) (u : Value) (w : World) (hu : Rd (Value.int .i64) w u l) :
    Calls Tryz.prog 16 #[u, .int .i64 n] w fun e w' => e = .returned (.bool (hasB n l)) ∧ Below w.heap.size w w' := by
  obtain ⟨A, c, rfl, hl⟩ := hu.slice
  have HU := Lib.hid hu
  clear hu
  go_enter Tryz.func16, Tryz.ntmps16
  go_wp2
  repeat (go_quiet (fail); try go_wp2)
  go_loopw [5] (fun a wr => ∃ j : Nat, a = .int .i64 j ∧ j ≤ at1 n l ∧ Below w.heap.size w wr) (fun a _ => at1 n l - (intOf a).toNat)
  case atStart => exact ⟨0, rfl, by omega, by repeat' (first | exact Below.refl _ _ | apply bdrew)⟩
  case round =>
    obtain ⟨j, rfl, hj, hb⟩ := hrel
    have hc := at1_le n l
    by_cases h1 : j < l.length
    · have h1' : (j : Int) < (l.length : Int) := by omega
      obtain ⟨-, -, b, off, rfl, hx⟩ := (HU.out.below hb).at (by omega)
      have hx := hx j h1
      by_cases h3 : j < at1 n l
      · have he : (l[j] == n) = false := by simpa using at1_lt n l j h3 h1
        go_wp2
        repeat (go_quiet (fail); try go_wp2)
        go_round
        case rel => exact ⟨j + 1, by go_num, by omega, by repeat' (first | exact hb | apply bdrew)⟩
        case measure => simp [intOf]; omega
      · obtain rfl : j = at1 n l := by omega
        have he : (l[at1 n l] == n) = true := by simpa using at1_at n l h1
        have HN := Lib.hid (show hasB n l = true by rw [← at1_mem]; exact h1)
        go_wp2
        repeat (go_quiet (fail); try go_wp2)
        go_ret
        exact ⟨by rw [HN.out]; rfl, by repeat' (first | exact hb | apply bdrew)⟩
    · have h1' : ¬ (j : Int) < (l.length : Int) := by omega
      have HN := Lib.hid (show hasB n l = false by rw [← Bool.not_eq_true, ← at1_mem]; omega)
      go_wp2
      repeat (go_quiet (fail); try go_wp2)
      go_ret
      exact ⟨by rw [HN.out]; rfl, by repeat' (first | exact hb | apply bdrew)⟩

set_option maxRecDepth 100000 in
set_option maxHeartbeats 4000000 in
theorem listed_any (l : List ByteArray) (n : ByteArray) (u : Value) (w : World) (hu : Rd Value.string w u l) :
    Calls Tryz.prog 20 #[u, .string n] w fun e w' => e = .returned (.bool (hasB n l)) ∧ Below w.heap.size w w' := by
  obtain ⟨A, c, rfl, hl⟩ := hu.slice
  have HU := Lib.hid hu
  clear hu
  go_enter Tryz.func20, Tryz.ntmps20
  go_wp2
  repeat (go_quiet (fail); try go_wp2)
  go_loopw [5] (fun a wr => ∃ j : Nat, a = .int .i64 j ∧ j ≤ at1 n l ∧ Below w.heap.size w wr) (fun a _ => at1 n l - (intOf a).toNat)
  case atStart => exact ⟨0, rfl, by omega, by repeat' (first | exact Below.refl _ _ | apply bdrew)⟩
  case round =>
    obtain ⟨j, rfl, hj, hb⟩ := hrel
    have hc := at1_le n l
    by_cases h1 : j < l.length
    · have h1' : (j : Int) < (l.length : Int) := by omega
      obtain ⟨-, -, b, off, rfl, hx⟩ := (HU.out.below hb).at (by omega)
      have hx := hx j h1
      by_cases h3 : j < at1 n l
      · have he : (l[j].toList == n.toList) = false := by rw [str_eq]; simpa using at1_lt n l j h3 h1
        go_wp2
        repeat (go_quiet (fail); try go_wp2)
        go_round
        case rel => exact ⟨j + 1, by go_num, by omega, by repeat' (first | exact hb | apply bdrew)⟩
        case measure => simp [intOf]; omega
      · obtain rfl : j = at1 n l := by omega
        have he : (l[at1 n l].toList == n.toList) = true := by rw [str_eq]; simpa using at1_at n l h1
        have HN := Lib.hid (show hasB n l = true by rw [← at1_mem]; exact h1)
        go_wp2
        repeat (go_quiet (fail); try go_wp2)
        go_ret
        exact ⟨by rw [HN.out]; rfl, by repeat' (first | exact hb | apply bdrew)⟩
    · have h1' : ¬ (j : Int) < (l.length : Int) := by omega
      have HN := Lib.hid (show hasB n l = false by rw [← Bool.not_eq_true, ← at1_mem]; omega)
      go_wp2
      repeat (go_quiet (fail); try go_wp2)
      go_ret
      exact ⟨by rw [HN.out]; rfl, by repeat' (first | exact hb | apply bdrew)⟩

/-- One of the names is longer than 100 bytes, or there are more than 100. -/
def longB (l : List ByteArray) : Bool := l.any (fun x => decide (100 < x.size)) || decide (100 < l.length)
def at2 (l : List ByteArray) : Nat := l.findIdx fun x => decide (100 < x.size)

set_option maxRecDepth 100000 in
set_option maxHeartbeats 4000000 in
theorem long_any (l : List ByteArray) (hs : ∀ x ∈ l, x.size ≤ 9223372036854775807) (u : Value) (w : World) (hu : Rd Value.string w u l) :
    Calls Tryz.prog 29 #[u] w fun e w' => e = .returned (.bool (longB l)) ∧ Below w.heap.size w w' := by
  obtain ⟨A, c, rfl, hl⟩ := hu.slice
  have HU := Lib.hid hu
  have HS := Lib.hid hs
  clear hu hs
  go_enter Tryz.func29, Tryz.ntmps29
  go_wp2
  repeat (go_quiet (fail); try go_wp2)
  go_loopw [3] (fun a wr => ∃ j : Nat, a = .int .i64 j ∧ j ≤ at2 l ∧ Below w.heap.size w wr) (fun a _ => at2 l - (intOf a).toNat)
  case atStart => exact ⟨0, rfl, by omega, by repeat' (first | exact Below.refl _ _ | apply bdrew)⟩
  case round =>
    obtain ⟨j, rfl, hj, hb⟩ := hrel
    have hc : at2 l ≤ l.length := List.findIdx_le_length
    by_cases h1 : j < l.length
    · have h1' : (j : Int) < (l.length : Int) := by omega
      obtain ⟨-, -, b, off, rfl, hx⟩ := (HU.out.below hb).at (by omega)
      have hx := hx j h1
      have hsz := HS.out l[j] (List.getElem_mem _)
      by_cases h3 : j < at2 l
      · have he : ¬ (100 : Int) < ((l[j].size : Nat) : Int) := by
          have := List.not_of_lt_findIdx h3
          simp at this
          omega
        go_wp2
        repeat (go_quiet (fail); try go_wp2)
        go_round
        case rel => exact ⟨j + 1, by go_num, by omega, by repeat' (first | exact hb | apply bdrew)⟩
        case measure => simp [intOf]; omega
      · obtain rfl : j = at2 l := by omega
        have he0 := List.findIdx_getElem (p := fun x : ByteArray => decide (100 < x.size)) (xs := l) (w := h1)
        simp only [decide_eq_true_eq] at he0
        have he : (100 : Int) < ((l[at2 l].size : Nat) : Int) := by
          have : 100 < (l[at2 l]).size := he0
          omega
        have HN := Lib.hid (show longB l = true by
          unfold longB
          rw [Bool.or_eq_true, List.any_eq_true]
          exact .inl ⟨_, List.getElem_mem _, decide_eq_true he0⟩)
        clear he0
        go_wp2
        repeat (go_quiet (fail); try go_wp2)
        go_ret
        exact ⟨by rw [HN.out]; rfl, by repeat' (first | exact hb | apply bdrew)⟩
    · have h1' : ¬ (j : Int) < (l.length : Int) := by omega
      have hno : l.any (fun x => decide (100 < x.size)) = false := by
        rw [← Bool.not_eq_true, List.any_eq_true]
        intro h
        have : at2 l < l.length := List.findIdx_lt_length.2 h
        omega
      have HL := Lib.hid (show longB l = decide (100 < l.length) by unfold longB; rw [hno, Bool.false_or])
      clear hno
      by_cases h5 : 100 < l.length
      · have h5' : (100 : Int) < (l.length : Int) := by omega
        have HN := Lib.hid (show longB l = true by rw [HL.out]; exact decide_eq_true h5)
        go_wp2
        repeat (go_quiet (fail); try go_wp2)
        go_ret
        exact ⟨by rw [HN.out]; rfl, by repeat' (first | exact hb | apply bdrew)⟩
      · have h5' : ¬ (100 : Int) < (l.length : Int) := by omega
        have HN := Lib.hid (show longB l = false by rw [HL.out]; exact decide_eq_false h5)
        go_wp2
        repeat (go_quiet (fail); try go_wp2)
        go_ret
        exact ⟨by rw [HN.out]; rfl, by repeat' (first | exact hb | apply bdrew)⟩
end Go.Proofs.YtcbgngkalplafaaGreatDoor
