/- Slices that are read: what lies in their cells. -/
import Derived.Test.YtcbgngkalplafaaGreatDoorBase
import Derived.Lib.Strings
namespace Go.Proofs.YtcbgngkalplafaaGreatDoor
open Go.RowKit Go.Shelf

/-- nil, or a place of a block. -/
def Plain (A : Option Addr) : Prop := A = none ∨ ∃ b off, A = some ⟨b, off, none⟩
/-- The slice v reads as l. -/
def Rd {α : Type} (enc : α → Value) (w : World) (v : Value) (l : List α) : Prop :=
  (l = [] ∧ ∃ A c, v = .slice A 0 c ∧ Plain A) ∨
  (l ≠ [] ∧ ∃ b off c, v = .slice (some ⟨b, off, none⟩) l.length c ∧ l.length ≤ c ∧ c ≤ 9223372036854775807 ∧ ∀ j (h : j < l.length), w.cell? ⟨b, off + j, none⟩ = some (enc l[j]))

section
variable {α : Type} {enc : α → Value} {w w' : World} {v : Value} {l : List α}
theorem Rd.below (h : Rd enc w v l) (hb : Below w.heap.size w w') : Rd enc w' v l := by
  rcases h with h | ⟨h0, b, off, c, e, h1, h2, h3⟩
  · exact .inl h
  · exact .inr ⟨h0, b, off, c, e, h1, h2, fun j hj => (hb.cell (p := ⟨b, off + j, none⟩) (World.block_lt_of_cell? w _ (h3 j hj))).trans (h3 j hj)⟩
theorem Rd.drewN (h : Rd enc w v l) (n : Nat) : Rd enc (w.drewN n) v l := by
  rcases h with h | ⟨h0, b, off, c, e, h1, h2, h3⟩
  · exact .inl h
  · exact .inr ⟨h0, b, off, c, e, h1, h2, fun j hj => by have := h3 j hj; simpa using this⟩
theorem Rd.slice (h : Rd enc w v l) : ∃ A c, v = .slice A l.length c ∧ l.length ≤ 9223372036854775807 := by
  rcases h with ⟨rfl, A, c, e⟩ | ⟨h0, b, off, c, e, h1, h2, h3⟩
  · exact ⟨A, c, e.1, by simp⟩
  · exact ⟨_, c, e, by omega⟩
theorem Rd.at {A : Option Addr} {n c : Nat} (h : Rd enc w (.slice A n c) l) (hl : 0 < n) : n = l.length ∧ n ≤ 9223372036854775807 ∧ ∃ b off, A = some ⟨b, off, none⟩ ∧ ∀ j (hj : j < l.length), w.cell? ⟨b, off + j, none⟩ = some (enc l[j]) := by
  rcases h with ⟨rfl, A, c, e⟩ | ⟨h0, b, off, c, e, h1, h2, h3⟩
  · cases e.1; omega
  · cases e; exact ⟨rfl, by omega, b, off, rfl, h3⟩
theorem Rd.len {A : Option Addr} {n c : Nat} (h : Rd enc w (.slice A n c) l) : n = l.length := by
  rcases h with ⟨rfl, A, c, e⟩ | ⟨h0, b, off, c, e, h1, h2, h3⟩
  · cases e.1; rfl
  · cases e; rfl
theorem Rd.plain {A : Option Addr} {n c : Nat} (h : Rd enc w (.slice A n c) l) : Plain A := by
  rcases h with ⟨rfl, A, c, e, p⟩ | ⟨h0, b, off, c, e, h1, h2, h3⟩
  · cases e; exact p
  · cases e; exact .inr ⟨b, off, rfl⟩
theorem Rd.nil {A : Option Addr} (c : Nat) (h : Plain A) : Rd enc w (.slice A 0 c) [] := .inl ⟨rfl, A, c, rfl, h⟩
theorem Rd.of_own {base : Nat} {e : TypeId} (h : w.ownsRow base e 1 v l.length (l.map enc)) : Rd enc w v l := by
  rcases Nat.eq_zero_or_pos l.length with h0 | h0
  · obtain rfl : l = [] := List.eq_nil_of_length_eq_zero h0
    rcases h.2 with ⟨rfl, _⟩ | ⟨g, cap, cur, rfl, _⟩
    · exact .inl ⟨rfl, none, 0, rfl, .inl rfl⟩
    · exact .inl ⟨rfl, _, cap, rfl, .inr ⟨_, _, rfl⟩⟩
  · right
    refine ⟨by intro e; rw [e] at h0; simp at h0, ?_⟩
    rcases h.2 with ⟨_, h1⟩ | ⟨g, cap, cur, rfl, hb, hh, h1, h2, h3, h4⟩
    · omega
    · refine ⟨g, 0, cap, rfl, h1, by simpa [maxLen] using h2, fun j hj => ?_⟩
      have := h.cells (g := g) rfl j (enc l[j]) (by simp [hj])
      rw [Nat.zero_add]; rw [show (⟨g, 0, none⟩ : Addr).add j = ⟨g, j, none⟩ from by unfold Addr.add; split <;> simp_all] at this; exact this
end
end Go.Proofs.YtcbgngkalplafaaGreatDoor
