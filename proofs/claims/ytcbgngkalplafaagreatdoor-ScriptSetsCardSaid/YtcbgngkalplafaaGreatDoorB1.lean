/- lineage.Valid, Ordinals: by parse. -/
import Derived.Test.YtcbgngkalplafaaGreatDoorA3
import Derived.Test.YtcbgngkalplafaaGreatDoorRd
namespace Go.Proofs.YtcbgngkalplafaaGreatDoor
open Go.RowKit Go.Shelf Lin

def validB (s : ByteArray) : Bool := (parts s.data.toList).all fun x => x.2.2 == 0
def ordl (s : ByteArray) : List Int := if validB s = true then ords (parts s.data.toList) else []

def ParsePost2 (w : World) (s : ByteArray) (e : Ending) (W' : World) : Prop :=
  ∃ v a er, e = .returned (.tuple #[v, .int .i64 a, .int .i64 er]) ∧ Below w.heap.size w W' ∧ (validB s = true → er = 0) ∧ (validB s = false → er ≠ 0) ∧
    W'.ownsRow w.heap.size 3 1 v (ordl s).length ((ordl s).map (Value.int .i64))

theorem validB_iff (s : ByteArray) : validB s = true ↔ isOk (parts s.data.toList) := by
  simp [validB, isOk, List.all_eq_true]
theorem parse_any (hA : AtoiSaid) (s : ByteArray) (hs : s.size ≤ 9223372036854775807) (w : World) : Calls Tryz.prog 63 #[.string s] w (ParsePost2 w s) := by
  refine (callsIn_wide.1 (parse_in hA 3 (by omega) s hs w)).mono ?_
  rintro e W' ⟨v, a, er, rfl, hb, (⟨h1, h2, h3, h4, h5⟩ | ⟨x, h1, rfl, h3, h4⟩)⟩
  · have hv := (validB_iff s).2 h1
    have e1 : ordl s = ords (parts s.data.toList) := by simp [ordl, hv]
    have e2 : (ordl s).length = (parts s.data.toList).length := by rw [e1, ords, List.length_map]
    refine ⟨v, a, er, rfl, hb, fun _ => h3, fun h => (by rw [hv] at h; cases h), ?_⟩
    rw [e2, e1]; exact h4
  · have hx := List.find?_some h1
    have hm := List.mem_of_find?_eq_some h1
    have hv : validB s = false := by
      rw [← Bool.not_eq_true, validB_iff]
      intro h
      have := h x hm
      simp [this] at hx
    have e1 : ordl s = [] := by simp [ordl, hv]
    refine ⟨_, a, er, rfl, hb, fun h => (by rw [hv] at h; cases h), fun _ => ?_, ?_⟩
    · rw [h4]; simpa using hx
    · rw [e1]; exact World.ownsRow_nil _ _ _ _

set_option maxHeartbeats 400000 in
theorem valid_any (hA : AtoiSaid) (s : ByteArray) (hs : s.size ≤ 9223372036854775807) (w : World) :
    Calls Tryz.prog 31 #[.string s] w fun e w' => e = .returned (.bool (validB s)) ∧ Below w.heap.size w w' := by
  go_enter Tryz.func31, Tryz.ntmps31
  go_wp2_with fail
  refine (parse_any hA s hs _).mono ?_
  rintro e W' ⟨v, a, er, rfl, hb, h1, h2, _⟩
  cases hv : validB s with
  | true =>
    have := h1 hv
    subst this
    have HV := Lib.hid hv
    clear h1 h2 hv
    go_wp2
    go_ret
    exact ⟨by rw [HV.out]; rfl, hb⟩
  | false =>
    have he : (er == 0) = false := by rw [beq_eq_false_iff_ne]; exact h2 hv
    have HV := Lib.hid hv
    clear h1 h2 hv
    go_wp2
    go_ret
    exact ⟨by rw [HV.out]; rfl, hb⟩

set_option maxHeartbeats 400000 in
theorem ordinals_any (hA : AtoiSaid) (s : ByteArray) (hs : s.size ≤ 9223372036854775807) (w : World) :
    Calls Tryz.prog 71 #[.string s] w fun e w' => ∃ v, e = .returned v ∧ Below w.heap.size w w' ∧ w'.ownsRow w.heap.size 3 1 v (ordl s).length ((ordl s).map (Value.int .i64)) := by
  go_enter Tryz.func71, Tryz.ntmps71
  go_wp2_with fail
  refine (parse_any hA s hs _).mono ?_
  rintro e W' ⟨v, a, er, rfl, hb, h1, h2, h3⟩
  clear h1 h2
  have H3 := Lib.hid h3
  clear h3
  go_wp2
  go_ret
  exact ⟨_, rfl, hb, H3.out⟩
end Go.Proofs.YtcbgngkalplafaaGreatDoor
