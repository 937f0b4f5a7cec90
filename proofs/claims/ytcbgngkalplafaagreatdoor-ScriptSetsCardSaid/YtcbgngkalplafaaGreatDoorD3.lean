/- Plus. -/
import Derived.Test.YtcbgngkalplafaaGreatDoorD2
import Derived.Deep.RegionHeld3
namespace Go.Proofs.YtcbgngkalplafaaGreatDoor
open Go.RowKit Go.Shelf Lin

/-- Two boxes of type Without and the result's, laid first of all. -/
def Two (w : World) (u x u' x' : Value) (W : World) : Prop :=
  Below w.heap.size w W ∧ w.heap.size + 3 ≤ W.heap.size ∧ W.heap[w.heap.size]? = some (.cells #[u, x] 29 (0, 0)) ∧ W.heap[w.heap.size + 1]? = some (.cells #[u', x'] 29 (0, 0)) ∧ ∃ p q, W.heap[w.heap.size + 2]? = some (.cells #[p, q] 29 (0, 0))
section
variable {w W W' : World} {u x u' x' : Value}
theorem Two.start (w : World) (u x u' x' p q : Value) : Two w u x u' x' (((w.alloc (.cells #[u, x] 29)).alloc (.cells #[u', x'] 29)).alloc (.cells #[p, q] 29)) :=
  ⟨(((Below.refl _ _).alloc (Nat.le_refl _) _).alloc (by rw [sizeA]; omega) _).alloc (by rw [sizeA, sizeA]; omega) _, by rw [sizeA, sizeA, sizeA]; omega, by
    rw [Below.heap_alloc _ _ _ (by rw [sizeA, sizeA]; omega), Below.heap_alloc _ _ _ (by rw [sizeA]; omega)]; exact heapA _ _, by
    rw [Below.heap_alloc _ _ _ (by rw [sizeA, sizeA]; omega)]; exact heapA2 _ _ _, p, q, by
    have := heapA ((w.alloc (.cells #[u, x] 29)).alloc (.cells #[u', x'] 29)) (.cells #[p, q] 29)
    rwa [sizeA, sizeA] at this⟩
theorem Two.below (h : Two w u x u' x' W) (hb : Below W.heap.size W W') : Two w u x u' x' W' := by
  obtain ⟨h1, h2, h3, h4, p, q, h5⟩ := h
  exact ⟨below_then h1 (by omega) hb, Nat.le_trans h2 hb.size, (hb.block _ (by omega)).trans h3, (hb.block _ (by omega)).trans h4, p, q, (hb.block _ (by omega)).trans h5⟩
theorem Two.alloc (h : Two w u x u' x' W) (o : Obj) : Two w u x u' x' (W.alloc o) := h.below ((Below.refl _ _).alloc (Nat.le_refl _) _)
theorem Two.drew (h : Two w u x u' x' W) : Two w u x u' x' W.drew := h.below (bdrew1 (Below.refl _ _))
theorem Two.set (h : Two w u x u' x' W) (j : Nat) (v : Value) : Two w u x u' x' (W.setCell ⟨w.heap.size + 1 + 1, j, none⟩ v) := by
  obtain ⟨h1, h2, h3, h4, p, q, h5⟩ := h
  refine ⟨h1.setCell (by show w.heap.size ≤ w.heap.size + 2; omega) _, by simpa [World.setCell] using h2, (Below.heap_setCell W _ _ _ (by show w.heap.size ≠ w.heap.size + 1 + 1; omega)).trans h3, (Below.heap_setCell W _ _ _ (by show w.heap.size + 1 ≠ w.heap.size + 1 + 1; omega)).trans h4, ?_⟩
  have := heap_set h5 j v
  match j with
  | 0 => exact ⟨v, q, this⟩
  | 1 => exact ⟨p, v, this⟩
  | j + 2 => exact ⟨p, q, this⟩
theorem Two.cells (h : Two w u x u' x' W) : W.cell? ⟨w.heap.size, 0, none⟩ = some u ∧ W.cell? ⟨w.heap.size, 1, none⟩ = some x ∧ W.cell? ⟨w.heap.size + 1, 0, none⟩ = some u' ∧ W.cell? ⟨w.heap.size + 1, 1, none⟩ = some x' ∧ Two w u x u' x' W :=
  ⟨cell_of_heap h.2.2.1 0 _ rfl, cell_of_heap h.2.2.1 1 _ rfl, cell_of_heap h.2.2.2.1 0 _ rfl, cell_of_heap h.2.2.2.1 1 _ rfl, h⟩
end

theorem Rd.sl {α : Type} {enc : α → Value} {w : World} {v : Value} {l : List α} (h : Rd enc w v l) : ∃ A n c, v = .slice A n c := by
  obtain ⟨A, c, e, -⟩ := h.slice
  exact ⟨A, _, c, e⟩
theorem heap_at1 {W W' : World} {o : Obj} (h : W'.heap = W.heap.push o) : W'.heap[W.heap.size]? = some o := by rw [h]; simp
theorem heap_at2 {W W' : World} {o o' : Obj} (h : W'.heap = (W.heap.push o).push o') : W'.heap[W.heap.size]? = some o := by
  rw [h, Array.getElem?_push_lt (by simp)]; simp
theorem heap_at3 {W W' : World} {o o' : Obj} (h : W'.heap = (W.heap.push o').push o) : W'.heap[W.heap.size + 1]? = some o := by
  rw [h, Array.getElem?_push, if_pos (by simp)]

set_option maxRecDepth 100000 in
set_option maxHeartbeats 8000000 in
theorem plus_any (is : List Int) (ls : List ByteArray) (is' : List Int) (ls' : List ByteArray) (hi1 : is.length ≤ 1000) (hl1 : ls.length ≤ 1000) (hi2 : is'.length ≤ 1000) (hl2 : ls'.length ≤ 1000) (hs : ∀ x ∈ ls, x.size ≤ 9223372036854775807) (hs' : ∀ x ∈ ls', x.size ≤ 9223372036854775807) (v v' : Value) (w : World) (hT : TabOk w) (hv : RdW w v is ls) (hv' : RdW w v' is' ls') :
    Calls Tryz.prog 21 #[v, v'] w fun e w' => ∃ r, e = .returned r ∧ RdW w' r (canI (is ++ is')) (canS (is ++ is') (ls ++ ls')) ∧ Below w.heap.size w w' := by
  obtain ⟨u, x, rfl, hu, hx⟩ := hv
  obtain ⟨u', x', rfl, hu', hx'⟩ := hv'
  have hu29 := Tryz.underlying29
  have HU := Lib.hid hu
  have HX := Lib.hid hx
  have HU' := Lib.hid hu'
  have HX' := Lib.hid hx'
  have HT := Lib.hid hT
  obtain ⟨A, c, rfl, hlen⟩ := hu.slice
  obtain ⟨A', c', rfl, hlen'⟩ := hx.slice
  obtain ⟨A1, c1, rfl, hlen1⟩ := hu'.slice
  obtain ⟨A2, c2, rfl, hlen2⟩ := hx'.slice
  have H2 := Lib.hid (Two.start w (.slice A is.length c) (.slice A' ls.length c') (.slice A1 is'.length c1) (.slice A2 ls'.length c2) (.slice none 0 0) (.slice none 0 0))
  clear hu hx hu' hx' hT
  go_enter Tryz.func21, Tryz.ntmps21
  go_wp2_with fail
  have HN1 := Lib.hid (show ([is, is']).flatten.length ≤ 1000000 by simp; omega)
  have HN2 := Lib.hid (show ([ls, ls']).flatten.length ≤ 1000000 by simp; omega)
  have HS := Lib.hid (show ∀ x ∈ ls ++ ls', x.size ≤ 9223372036854775807 by
    intro x hx
    rcases List.mem_append.1 hx with h | h
    · exact hs x h
    · exact hs' x h)
  have HQ1 := Lib.hid (show (is ++ is').length ≤ 1000000 by simp; omega)
  have HQ2 := Lib.hid (show (ls ++ ls').length ≤ 1000000 by simp; omega)
  clear hs hs'
  generalize (((w.alloc (.cells #[.slice A is.length c, .slice A' ls.length c'] 29)).alloc (.cells #[.slice A1 is'.length c1, .slice A2 ls'.length c2] 29)).alloc (.cells #[.slice none 0 0, .slice none 0 0] 29)) = W0 at H2 ⊢
  go_region_held3 (fun W => W.cell? ⟨w.heap.size, 0, none⟩ = some (.slice A is.length c) ∧ W.cell? ⟨w.heap.size, 1, none⟩ = some (.slice A' ls.length c') ∧ W.cell? ⟨w.heap.size + 1, 0, none⟩ = some (.slice A1 is'.length c1) ∧ W.cell? ⟨w.heap.size + 1, 1, none⟩ = some (.slice A2 ls'.length c2) ∧ Two w (.slice A is.length c) (.slice A' ls.length c') (.slice A1 is'.length c1) (.slice A2 ls'.length c2) W)
    (first
      | exact Two.cells ‹Two _ _ _ _ _ _›
      | exact Two.cells (Two.drew H2.out)
      | (obtain ⟨-, -, -, -, h2⟩ := ‹_ ∧ _ ∧ _ ∧ _ ∧ Two _ _ _ _ _ _›; exact Two.cells (h2.alloc _))
      | (obtain ⟨-, -, -, -, h2⟩ := ‹_ ∧ _ ∧ _ ∧ _ ∧ Two _ _ _ _ _ _›; exact Two.cells ((h2.set 0 _).set 1 _)))
    (first
      | (go_at_call 40; obtain ⟨-, -, -, -, h2⟩ := ‹_ ∧ _ ∧ _ ∧ _ ∧ Two _ _ _ _ _ _›; refine Calls.mono (concatInt_any [is, is'] (Nat.le_of_ble_eq_true rfl) HN1.out _ _ (rd2_two (t := 26) ?_ (HU.out.below h2.1) (HU'.out.below h2.1))) ?_; (first | exact heap_at1 rfl | exact heap_at2 rfl | exact heap_at3 rfl); intro e w1 h; obtain ⟨v1, rfl, ho1, hb1⟩ := h; have h3 := h2.below hb1; have HR1 := Lib.hid (Rd.of_own (e := 3) ho1); obtain ⟨B1, n1, d1, rfl⟩ := HR1.out.sl; clear ho1 h2)
      | (go_at_call 41; obtain ⟨-, -, -, -, h2⟩ := ‹_ ∧ _ ∧ _ ∧ _ ∧ Two _ _ _ _ _ _›; refine Calls.mono (concatName_any [ls, ls'] (Nat.le_of_ble_eq_true rfl) HN2.out _ _ (rd2_two (t := 27) ?_ (HX.out.below h2.1) (HX'.out.below h2.1))) ?_; (first | exact heap_at1 rfl | exact (hb1.block _ (by simp <;> omega)).trans (heap_at1 rfl) | exact (hb1.block _ (by simp <;> omega)).trans (heap_at2 rfl) | exact (hb1.block _ (by simp <;> omega)).trans (heap_at3 rfl)); intro e w2 h; obtain ⟨v2, rfl, ho2, hb2⟩ := h; have h4 := h2.below hb2; have HR2 := Lib.hid (rd_names ho2); obtain ⟨B2, n2, d2, rfl⟩ := HR2.out.sl; have HR3 := Lib.hid (HR1.out.below (w' := w2) (by first | exact hb2 | exact below_then ((Below.refl _ _).alloc (Nat.le_refl _) _) (by simp) hb2)); clear ho2 h2 h3 HR1 hb1)
      | (go_at_call 32; obtain ⟨-, -, -, -, h2⟩ := ‹_ ∧ _ ∧ _ ∧ _ ∧ Two _ _ _ _ _ _›; refine Calls.mono (canonical_any (is ++ is') (ls ++ ls') HQ1.out HQ2.out HS.out _ _ _ (HT.out.below h2.1) ?_ ?_) ?_; (have := HR3.out; rw [show ([is, is']).flatten = is ++ is' by simp] at this; exact this); (have := HR2.out; rw [show ([ls, ls']).flatten = ls ++ ls' by simp] at this; exact this); intro e w3 h; obtain ⟨v3, y3, rfl, ho3, ho4, hb3⟩ := h; have h5 := h2.below hb3; have hge := h2.2.1; obtain ⟨p, q, hres⟩ := h5.2.2.2.2; have hr0 := cell_of_heap hres 0 _ rfl; have hr1 := cell_of_heap hres 1 _ rfl; have hz0 := frozen_of hres 0; have hz1 := frozen_of hres 1; have HO3 := Lib.hid ho3; have HO4 := Lib.hid ho4; obtain ⟨B3, d3, rfl⟩ := own_slice' ho3; obtain ⟨B4, d4, rfl⟩ := own_slice' ho4; clear ho3 ho4 h2))
  all_goals
    go_wp2_with fail
    have hh : ((w3.setCell ⟨w.heap.size + 1 + 1, 0, none⟩ (.slice B3 (canI (is ++ is')).length d3)).setCell ⟨w.heap.size + 1 + 1, 1, none⟩ (.slice B4 (canN (is ++ is') (ls ++ ls')).length d4)).heap[w.heap.size + 2]? = some (.cells #[.slice B3 (canI (is ++ is')).length d3, .slice B4 (canN (is ++ is') (ls ++ ls')).length d4] 29 (0, 0)) := heap_set (heap_set hres 0 _) 1 _
    refine bodyPost_ret (results_cell_row rfl _ _ (w.heap.size + 2) 29 _ (0, 0) _ rfl hh hu29 rfl Tryz_size29) rfl ?_
    refine ⟨_, rfl, ⟨_, _, rfl, Rd.of_own (e := 3) (ownsRow_setCell_below (ownsRow_setCell_below HO3.out ?_ _) ?_ _), rd_nms (ownsRow_setCell_below (ownsRow_setCell_below HO4.out ?_ _) ?_ _)⟩, (h5.1.setCell ?_ _).setCell ?_ _⟩
    · show w.heap.size + 2 < _; omega
    · show w.heap.size + 2 < _; omega
    · show w.heap.size + 2 < _; omega
    · show w.heap.size + 2 < _; omega
    · show w.heap.size ≤ w.heap.size + 2; omega
    · show w.heap.size ≤ w.heap.size + 2; omega
end Go.Proofs.YtcbgngkalplafaaGreatDoor
