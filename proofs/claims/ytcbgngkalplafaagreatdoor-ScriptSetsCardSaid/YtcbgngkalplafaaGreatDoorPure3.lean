/- Inserting a number into a strictly sorted list. No program in sight. -/
import Derived.Test.YtcbgngkalplafaaGreatDoorPure2
namespace Go.Proofs.YtcbgngkalplafaaGreatDoor.Lin

/-- How many elements at the head are below n. -/
def lo (n : Int) (L : List Int) : Nat := L.findIdx fun x => !decide (x < n)
theorem lo_le (n : Int) (L : List Int) : lo n L ≤ L.length := List.findIdx_le_length
theorem lo_lt (n : Int) (L : List Int) (j : Nat) (h : j < lo n L) (hl : j < L.length) : L[j] < n := by
  have := List.not_of_lt_findIdx h
  simpa using this
theorem lo_at (n : Int) (L : List Int) (h : lo n L < L.length) : ¬ L[lo n L] < n := by
  have h2 := List.findIdx_getElem (p := fun x => !decide (x < n)) (xs := L) (w := h)
  rw [Bool.not_eq_true', decide_eq_false_iff_not] at h2
  exact h2
theorem ins_sort {l L : List Int} {n : Int} (h : IsSort (fun a b : Int => a < b) l L) (hne : ∀ h : lo n L < L.length, L[lo n L] ≠ n) :
    IsSort (fun a b : Int => a < b) (l ++ [n]) ((L.take (lo n L) ++ [n]) ++ L.drop (lo n L)) := by
  have htd := List.take_append_drop (lo n L) L
  have hp := h.1
  have h1 : ∀ x ∈ L.take (lo n L), x < n := by
    intro x hx
    obtain ⟨j, hj, rfl⟩ := List.getElem_of_mem hx
    simp only [List.length_take] at hj
    rw [List.getElem_take]
    exact lo_lt n L j (by omega) (by omega)
  have h2 : ∀ x ∈ L.drop (lo n L), n < x := by
    intro x hx
    obtain ⟨j, hj, rfl⟩ := List.getElem_of_mem hx
    simp only [List.length_drop] at hj
    rw [List.getElem_drop]
    have hlt : lo n L < L.length := by omega
    have h3 := lo_at n L hlt
    have h4 := hne hlt
    cases j with
    | zero => simp only [Nat.add_zero]; omega
    | succ j =>
      have := List.pairwise_iff_getElem.1 hp (lo n L) (lo n L + (j + 1)) hlt (by omega) (by omega)
      omega
  rw [← htd, List.pairwise_append] at hp
  constructor
  · rw [List.append_assoc, List.pairwise_append, List.singleton_append, List.pairwise_cons]
    refine ⟨hp.1, ⟨h2, hp.2.1⟩, fun a ha b hb => ?_⟩
    rcases List.mem_cons.1 hb with rfl | hb
    · exact h1 a ha
    · exact hp.2.2 a ha b hb
  · intro x
    have hm : x ∈ L ↔ x ∈ L.take (lo n L) ∨ x ∈ L.drop (lo n L) := by rw [← List.mem_append, htd]
    have := h.2 x
    simp only [List.mem_append, List.mem_singleton]
    rw [← this, hm]
    constructor
    · rintro ((h | h) | h)
      · exact .inl (.inl h)
      · exact .inr h
      · exact .inl (.inr h)
    · rintro ((h | h) | h)
      · exact .inl (.inl h)
      · exact .inr h
      · exact .inl (.inr h)
theorem ins_same {l L : List Int} {n : Int} (h : IsSort (fun a b : Int => a < b) l L) (hlt : lo n L < L.length) (he : L[lo n L] = n) : IsSort (fun a b : Int => a < b) (l ++ [n]) L := by
  refine ⟨h.1, fun x => ?_⟩
  rw [List.mem_append, List.mem_singleton, h.2 x]
  constructor
  · exact .inl
  · rintro (h1 | rfl)
    · exact h1
    · exact (h.2 x).1 (he ▸ List.getElem_mem hlt)
end Go.Proofs.YtcbgngkalplafaaGreatDoor.Lin
