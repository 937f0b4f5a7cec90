/- Strictly sorted lists: one for each set. No program in sight. -/
import Derived.Lib.SlicesCompact
import Derived.Shelf.SlSortCmp.Insertion
namespace Go.Proofs.YtcbgngkalplafaaGreatDoor.Lin
open Go.Lib

/-- A strict order in which two different things are never alike. -/
structure SLO {α : Type} (lt : α → α → Prop) : Prop where
  irrefl : ∀ x, ¬ lt x x
  trans : ∀ x y z, lt x y → lt y z → lt x z
  tri : ∀ x y, ¬ lt x y → ¬ lt y x → x = y

/-- T is the strictly sorted list of what lies in l. -/
def IsSort {α : Type} (lt : α → α → Prop) (l T : List α) : Prop := T.Pairwise lt ∧ ∀ x, x ∈ T ↔ x ∈ l

theorem sorted_unique {α : Type} {lt : α → α → Prop} (h : SLO lt) : ∀ (l m : List α), l.Pairwise lt → m.Pairwise lt → (∀ x, x ∈ l ↔ x ∈ m) → l = m
  | [], [], _, _, _ => rfl
  | [], b :: m, _, _, hm => by have := (hm b).2 (by simp); simp at this
  | a :: l, [], _, _, hm => by have := (hm a).1 (by simp); simp at this
  | a :: l, b :: m, hl, hm, hx => by
    rw [List.pairwise_cons] at hl hm
    have hab : a = b := by
      have h1 := (hx a).1 (by simp)
      have h2 := (hx b).2 (by simp)
      rcases List.mem_cons.1 h1 with h1 | h1
      · exact h1
      rcases List.mem_cons.1 h2 with h2 | h2
      · exact h2.symm
      exact absurd (h.trans _ _ _ (hl.1 b h2) (hm.1 a h1)) (h.irrefl a)
    subst hab
    congr 1
    refine sorted_unique h l m hl.2 hm.2 fun x => ?_
    constructor
    · intro h1
      rcases List.mem_cons.1 ((hx x).1 (by simp [h1])) with e | e
      · subst e; exact absurd (hl.1 x h1) (h.irrefl x)
      · exact e
    · intro h1
      rcases List.mem_cons.1 ((hx x).2 (by simp [h1])) with e | e
      · subst e; exact absurd (hm.1 x h1) (h.irrefl x)
      · exact e
theorem IsSort.unique {α : Type} {lt : α → α → Prop} (h : SLO lt) {l m T U : List α} (h1 : IsSort lt l T) (h2 : IsSort lt m U) (hx : ∀ x, x ∈ l ↔ x ∈ m) : T = U :=
  sorted_unique h T U h1.1 h2.1 fun x => (h1.2 x).trans ((hx x).trans (h2.2 x).symm)

theorem compact_sort {α : Type} [Inhabited α] [DecidableEq α] {lt : α → α → Prop} (h : SLO lt) (l : List α) (hs : l.Pairwise fun x y => ¬ lt y x) : IsSort lt l (compact l) := by
  have hget : ∀ i (hi : i < l.length), l.toArray[i]! = l[i] := fun i hi => by simp [hi]
  have hle : ∀ i j (hj : j < l.length) (hij : i ≤ j), ¬ lt l[j] (l[i]'(by omega)) := fun i j hj hij => by
    rcases Nat.lt_or_ge i j with h1 | h1
    · exact List.pairwise_iff_getElem.1 hs i j (by omega) hj h1
    · have : i = j := by omega
      subst this; exact h.irrefl _
  constructor
  · unfold compact compactUpTo
    rw [List.pairwise_map]
    have hp : (List.range l.length).Pairwise (· < ·) := List.pairwise_lt_range
    refine (List.Pairwise.imp_of_mem ?_ (hp.filter _))
    intro i j hi hj hij
    have hij : i < j := hij
    rw [List.mem_filter, List.mem_range] at hi hj
    have hk := hj.2
    simp only [keeps, decide_eq_true_eq] at hk
    rw [hget i hi.1, hget j hj.1]
    rcases hk with hk | hk
    · omega
    · rw [hget j hj.1, hget (j - 1) (by omega)] at hk
      have h1 := hle i (j - 1) (by omega) (by omega)
      have h2 := hle (j - 1) j hj.1 (by omega)
      have h3 : lt (l[j - 1]'(by omega)) l[j] := by
        refine Classical.byContradiction fun h3 => hk (h.tri _ _ h2 h3)
      by_cases e : lt (l[i]'(by omega)) (l[j - 1]'(by omega))
      · exact h.trans _ _ _ e h3
      · rw [h.tri _ _ e h1]; exact h3
  · intro x
    unfold compact compactUpTo
    simp only [List.mem_map, List.mem_filter, List.mem_range]
    constructor
    · rintro ⟨j, ⟨hj, _⟩, rfl⟩
      rw [hget j hj]
      exact List.getElem_mem _
    · intro hx
      have key : ∀ j (hj : j < l.length), ∃ i, (i < l.length ∧ keeps l.toArray i = true) ∧ l.toArray[i]! = l[j] := by
        intro j
        induction j with
        | zero => intro hj; exact ⟨0, ⟨hj, by simp [keeps]⟩, hget 0 hj⟩
        | succ j ih =>
          intro hj
          by_cases e : l[j + 1] = l[j]
          · rw [e]; exact ih (by omega)
          · refine ⟨j + 1, ⟨hj, ?_⟩, hget _ hj⟩
            simp only [keeps, decide_eq_true_eq]
            right
            rw [hget _ hj, Nat.add_sub_cancel, hget j (by omega)]
            exact e
      obtain ⟨j, hj, rfl⟩ := List.getElem_of_mem hx
      exact key j hj

theorem compact_map {α β : Type} [Inhabited α] [DecidableEq α] [Inhabited β] [DecidableEq β] (f : α → β) (hf : ∀ x y, f x = f y → x = y) (l : List α) : compact (l.map f) = (compact l).map f := by
  unfold compact compactUpTo
  rw [List.map_map, List.length_map]
  have hg : ∀ i, i < l.length → (l.map f).toArray[i]! = f l.toArray[i]! := fun i hi => by simp [hi]
  have hk : (List.range l.length).filter (keeps (l.map f).toArray) = (List.range l.length).filter (keeps l.toArray) := by
    apply List.filter_congr
    intro i hi
    rw [List.mem_range] at hi
    unfold keeps
    rw [decide_eq_decide, hg i hi, hg (i - 1) (by omega)]
    constructor
    · rintro (h | h)
      · exact .inl h
      · exact .inr fun e => h (by rw [e])
    · rintro (h | h)
      · exact .inl h
      · exact .inr fun e => h (hf _ _ e)
  rw [hk]
  apply List.map_congr_left
  intro i hi
  rw [List.mem_filter, List.mem_range] at hi
  exact hg i hi.1

theorem slo_int : SLO (fun a b : Int => a < b) := ⟨fun x => by omega, fun x y z h1 h2 => by omega, fun x y h1 h2 => by omega⟩
/-- What sort and compact make of numbers. -/
theorem sort_ints (l : List Int) : IsSort (fun a b : Int => a < b) l (compact (l.mergeSort fun x y => decide (x ≤ y))) := by
  have h1 : (l.mergeSort fun x y => decide (x ≤ y)).Pairwise fun x y => ¬ y < x := by
    refine (List.pairwise_mergeSort (le := fun x y => decide (x ≤ y)) ?_ ?_ l).imp ?_
    · intro a b c h1 h2; simp only [decide_eq_true_eq] at *; omega
    · intro a b; simp only [Bool.or_eq_true, decide_eq_true_eq]; omega
    · intro a b h; simp only [decide_eq_true_eq] at h; omega
  have h2 := compact_sort slo_int _ h1
  exact ⟨h2.1, fun x => (h2.2 x).trans List.mem_mergeSort⟩
end Go.Proofs.YtcbgngkalplafaaGreatDoor.Lin
