/- The row's arguments opened: a Without that came in reads as numbers and names. -/
import Derived.Test.YtcbgngkalplafaaGreatDoorC7
import Derived.ProofKit
import Derived.Lib.SmallJoins
import Derived.Deep.Strs
namespace Go.Proofs.YtcbgngkalplafaaGreatDoor
open Go.ChangeShapes Go.WideShapes Go.ChangeAt Go.RowKit Go.Shelf Go.Joins Go.Deep

theorem cells29 : Tryz.prog.cellsOf 29 = 2 := by kernel_rfl
theorem cells3 : Tryz.prog.cellsOf 3 = 1 := by kernel_rfl
theorem cells47 : Tryz.prog.cellsOf 47 = 1 := by kernel_rfl
theorem types29 : Tryz.prog.cellTypes Tryz.prog.depth 29 = some [26, 27] := by kernel_rfl
theorem addr_add {a : Addr} (h : a.spot = none) (i : Nat) : a.add i = ⟨a.block, a.off + i, none⟩ := by
  obtain ⟨b, o, sp⟩ := a
  simp only at h
  subst h
  unfold Addr.add
  split
  · rename_i h0; subst h0; rfl
  · rfl
set_option maxRecDepth 100000 in
theorem okc {W : World} {r : Reach} {b0 : Nat} {v0 v1 : Value} (h : Value.okWide Tryz.prog W r b0 29 (.agg #[v0, v1])) : Cell.okWide Tryz.prog W r b0 26 v0 ∧ Cell.okWide Tryz.prog W r b0 27 v1 := by
  unfold Value.okWide at h
  rw [Tryz.underlying29] at h
  obtain ⟨cs, e, _, ts, ht, _, hc⟩ := h
  rw [types29] at ht
  cases ht
  cases e
  obtain ⟨u, hu, h1⟩ := hc 0 v0 rfl
  obtain ⟨u', hu', h2⟩ := hc 1 v1 rfl
  simp at hu hu'
  subst hu hu'
  exact ⟨h1, h2⟩
set_option maxRecDepth 100000 in
theorem spot_of {W : World} {r : Reach} {b0 : Nat} {t e : TypeId} {a : Addr} {l c : Nat} (ht : Tryz.prog.underlying t = some (.slice e)) (h : Cell.okWide Tryz.prog W r b0 t (.slice (some a) l c)) : a.spot = none := by
  unfold Cell.okWide at h
  rw [ht] at h
  simp only [Cell.ok, ht] at h
  exact h.2.2.2.1
set_option maxRecDepth 100000 in
theorem open_without {H : Type} {enc : TypeId × Value → H} {W : World} {r : Reach} {b0 base : Nat} {spare : Nat → Bool} {held : Bool} {v : Value} {d : DataW H} {p : List MemPlace} (hv : Value.okWide Tryz.prog W r b0 29 v) (h : DataW.Trod enc Tryz.prog W base spare held 29 v d p) :
    ∃ is ls, RdW W v is ls ∧ ∀ x ∈ ls, x.size ≤ 9223372036854775807 := by
  obtain ⟨c0, c1, y0, y1, m, rfl, rfl, rfl, hy0, hy1⟩ := open_agg2 Tryz.underlying29 (by kernel_rfl) cells29 hv h
  obtain ⟨ok0, ok1⟩ := okc hv
  have h0 : ∃ is, Rd (Value.int .i64) W c0 is := by
    rcases open_ints Tryz.underlying26 Tryz.underlying3 cells3 hy0 with ⟨e, -⟩ | ⟨a, len, cap, zs, e, -, hl, hm, hlen, -, hc, -⟩
    · cases e; exact ⟨[], .inl ⟨rfl, none, 0, rfl, .inl rfl⟩⟩
    · cases e
      have hs := spot_of Tryz.underlying26 ok0
      have hle : len ≤ zs.length := by rw [hlen]; split <;> omega
      refine ⟨zs.take len, ?_⟩
      rcases Nat.eq_zero_or_pos len with rfl | hpos
      · exact .inl ⟨by simp, _, cap, rfl, .inr ⟨a.block, a.off, by cases a; simp only at hs; subst hs; rfl⟩⟩
      · refine .inr ⟨fun h => by have := congrArg List.length h; rw [List.length_take, Nat.min_eq_left hle, List.length_nil] at this; omega, a.block, a.off, cap, ?_, by rw [List.length_take, Nat.min_eq_left hle]; exact hl, by simpa [maxLen] using hm, fun j hj => ?_⟩
        · rw [List.length_take, Nat.min_eq_left hle]
          cases a; simp only at hs; subst hs; rfl
        · have hj' : j < zs.length := by simp at hj; omega
          have := hc j hj'
          rw [addr_add hs] at this
          rw [this, List.getElem_take]
          simp [hj']
  have h1 : ∃ ls, Rd Value.string W c1 ls ∧ ∀ x ∈ ls, x.size ≤ 9223372036854775807 := by
    rcases open_strs Tryz.underlying27 Tryz.underlying47 cells47 hy1 with ⟨e, -⟩ | ⟨a, len, cap, m', S, e, -, hl, hm, hlen, -, hc⟩
    · cases e; exact ⟨[], .inl ⟨rfl, none, 0, rfl, .inl rfl⟩, by simp⟩
    · cases e
      have hs := spot_of Tryz.underlying27 ok1
      have hle : len ≤ m' := by rw [hlen]; split <;> omega
      refine ⟨(List.range len).map S, ?_, ?_⟩
      · rcases Nat.eq_zero_or_pos len with rfl | hpos
        · exact .inl ⟨by simp, _, cap, rfl, .inr ⟨a.block, a.off, by cases a; simp only at hs; subst hs; rfl⟩⟩
        · refine .inr ⟨fun h => by have := congrArg List.length h; simp at this; omega, a.block, a.off, cap, ?_, by simp; omega, by simpa [maxLen] using hm, fun j hj => ?_⟩
          · rw [List.length_map, List.length_range]
            cases a; simp only at hs; subst hs; rfl
          · have hj' : j < len := by simpa using hj
            have := (hc j (by omega)).1
            rw [addr_add hs] at this
            rw [this]
            simp
      · intro x hx
        obtain ⟨i, hi, rfl⟩ := List.mem_map.1 hx
        have := (hc i (by have := List.mem_range.1 hi; omega)).2
        simpa [maxLen] using this
  obtain ⟨is, hi⟩ := h0
  obtain ⟨ls, hl, hs⟩ := h1
  exact ⟨is, ls, ⟨c0, c1, rfl, hi, hl⟩, hs⟩
end Go.Proofs.YtcbgngkalplafaaGreatDoor
