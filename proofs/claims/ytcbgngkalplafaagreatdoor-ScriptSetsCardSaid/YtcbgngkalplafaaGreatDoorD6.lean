/- Minus. -/
import Derived.Test.YtcbgngkalplafaaGreatDoorD5
namespace Go.Proofs.YtcbgngkalplafaaGreatDoor
open Go.RowKit Go.Shelf Lin

theorem Two.sets {w W : World} {u x u' x' : Value} (h : Two w u x u' x' W) (a b c d : Value) : Two w a b c d ((((W.setCell ⟨w.heap.size, 0, none⟩ a).setCell ⟨w.heap.size, 1, none⟩ b).setCell ⟨w.heap.size + 1, 0, none⟩ c).setCell ⟨w.heap.size + 1, 1, none⟩ d) := by
  obtain ⟨h1, h2, h3, h4, p, q, h5⟩ := h
  refine ⟨(((h1.setCell (Nat.le_refl _) _).setCell (Nat.le_refl _) _).setCell (by show w.heap.size ≤ w.heap.size + 1; omega) _).setCell (by show w.heap.size ≤ w.heap.size + 1; omega) _, by simpa [World.setCell] using h2, ?_, ?_, p, q, ?_⟩
  · refine (Below.heap_setCell _ _ _ _ (by show w.heap.size ≠ w.heap.size + 1; omega)).trans ((Below.heap_setCell _ _ _ _ (by show w.heap.size ≠ w.heap.size + 1; omega)).trans ?_)
    exact heap_set (heap_set h3 0 _) 1 _
  · refine heap_set (heap_set (?_ : (World.setCell _ _ _).heap[w.heap.size + 1]? = some (.cells #[u', x'] 29 (0, 0))) 0 _) 1 _
    exact (Below.heap_setCell _ _ _ _ (by show w.heap.size + 1 ≠ w.heap.size; omega)).trans ((Below.heap_setCell _ _ _ _ (by show w.heap.size + 1 ≠ w.heap.size; omega)).trans h4)
  · refine (Below.heap_setCell _ _ _ _ (by show w.heap.size + 2 ≠ w.heap.size + 1; omega)).trans ((Below.heap_setCell _ _ _ _ (by show w.heap.size + 2 ≠ w.heap.size + 1; omega)).trans ((Below.heap_setCell _ _ _ _ (by show w.heap.size + 2 ≠ w.heap.size; omega)).trans ((Below.heap_setCell _ _ _ _ (by show w.heap.size + 2 ≠ w.heap.size; omega)).trans h5)))
theorem Two.set0 {w W : World} {u x u' x' : Value} (h : Two w u x u' x' W) (a : Value) : Two w a x u' x' (W.setCell ⟨w.heap.size, 0, none⟩ a) := by
  obtain ⟨h1, h2, h3, h4, p, q, h5⟩ := h
  exact ⟨h1.setCell (Nat.le_refl _) _, by simpa [World.setCell] using h2, heap_set h3 0 _, (Below.heap_setCell _ _ _ _ (by show w.heap.size + 1 ≠ w.heap.size; omega)).trans h4, p, q, (Below.heap_setCell _ _ _ _ (by show w.heap.size + 2 ≠ w.heap.size; omega)).trans h5⟩
theorem Two.set1 {w W : World} {u x u' x' : Value} (h : Two w u x u' x' W) (a : Value) : Two w u a u' x' (W.setCell ⟨w.heap.size, 1, none⟩ a) := by
  obtain ⟨h1, h2, h3, h4, p, q, h5⟩ := h
  exact ⟨h1.setCell (Nat.le_refl _) _, by simpa [World.setCell] using h2, heap_set h3 1 _, (Below.heap_setCell _ _ _ _ (by show w.heap.size + 1 ≠ w.heap.size; omega)).trans h4, p, q, (Below.heap_setCell _ _ _ _ (by show w.heap.size + 2 ≠ w.heap.size; omega)).trans h5⟩
theorem Two.upto {w W W' : World} {u x u' x' : Value} {R : Nat} (h : Two w u x u' x' W) (hb : Below R W W') (hR : w.heap.size + 3 ≤ R) : Two w u x u' x' W' := by
  obtain ⟨h1, h2, h3, h4, p, q, h5⟩ := h
  exact ⟨h1.trans (below_of hb (by omega)), Nat.le_trans h2 hb.size, (hb.block _ (by omega)).trans h3, (hb.block _ (by omega)).trans h4, p, q, (hb.block _ (by omega)).trans h5⟩
theorem setB_owns {w W : World} {B n : Nat} {e : TypeId} {v : Value} {xs : List Value} (h : W.ownsRow B e 1 v n xs) (hB : w.heap.size + 2 ≤ B) (j : Nat) (a : Value) : (W.setCell ⟨w.heap.size, j, none⟩ a).ownsRow B e 1 v n xs :=
  ownsRow_setCell_below h (by show w.heap.size < B; omega) _

theorem own_sl {w : World} {base n : Nat} {e : TypeId} {size : Nat} {v : Value} {xs : List Value} (h : w.ownsRow base e size v n xs) : ∃ A m c, v = .slice A m c := by
  obtain ⟨A, c, e⟩ := own_slice' h
  exact ⟨A, _, c, e⟩

set_option maxRecDepth 100000 in
set_option maxHeartbeats 8000000 in
theorem minus_any (is : List Int) (ls : List ByteArray) (is' : List Int) (ls' : List ByteArray) (hi1 : is.length ≤ 1000) (hl1 : ls.length ≤ 1000) (hi2 : is'.length ≤ 1000) (hl2 : ls'.length ≤ 1000) (hs : ∀ x ∈ ls, x.size ≤ 9223372036854775807) (hs' : ∀ x ∈ ls', x.size ≤ 9223372036854775807) (v v' : Value) (w : World) (hT : TabOk w) (hv : RdW w v is ls) (hv' : RdW w v' is' ls') :
    Calls Tryz.prog 22 #[v, v'] w fun e w' => ∃ r, e = .returned r ∧ RdW w' r (canI ((canI is).filter fun n => !hasB n (canI is'))) (canS ((canI is).filter fun n => !hasB n (canI is')) (((canN is ls).filter fun n => !hasB n.1 (canS is' ls')).map fun n : Nm => n.1)) ∧ Below w.heap.size w w' := by
  obtain ⟨u, x, rfl, hu, hx⟩ := hv
  obtain ⟨u', x', rfl, hu', hx'⟩ := hv'
  have hu29 := Tryz.underlying29
  have HU := Lib.hid hu
  have HX := Lib.hid hx
  have HU' := Lib.hid hu'
  have HX' := Lib.hid hx'
  have HT := Lib.hid hT
  have HS := Lib.hid hs
  have HS' := Lib.hid hs'
  obtain ⟨A, c, rfl, hlen⟩ := hu.slice
  obtain ⟨A', c', rfl, hlen'⟩ := hx.slice
  obtain ⟨A1, c1, rfl, hlen1⟩ := hu'.slice
  obtain ⟨A2, c2, rfl, hlen2⟩ := hx'.slice
  have H2 := Lib.hid (Two.start w (.slice A is.length c) (.slice A' ls.length c') (.slice A1 is'.length c1) (.slice A2 ls'.length c2) (.slice none 0 0) (.slice none 0 0)).drew
  have HQ1 := Lib.hid (show is.length ≤ 1000000 ∧ ls.length ≤ 1000000 ∧ is'.length ≤ 1000000 ∧ ls'.length ≤ 1000000 by omega)
  clear hu hx hu' hx' hT hs hs'
  go_enter Tryz.func22, Tryz.ntmps22
  go_wp2_with fail
  generalize (((w.alloc (.cells #[.slice A is.length c, .slice A' ls.length c'] 29)).alloc (.cells #[.slice A1 is'.length c1, .slice A2 ls'.length c2] 29)).alloc (.cells #[.slice none 0 0, .slice none 0 0] 29)) = W0 at H2 ⊢
  have hk0 := cell_of_heap H2.out.2.2.1 0 _ rfl
  have hk1 := cell_of_heap H2.out.2.2.1 1 _ rfl
  have hk2 := cell_of_heap H2.out.2.2.2.1 0 _ rfl
  have hk3 := cell_of_heap H2.out.2.2.2.1 1 _ rfl
  go_region_with (first
    | (go_at_call_of 32 (Value.slice A is.length c); refine Calls.mono (canonical_any is ls HQ1.out.1 HQ1.out.2.1 HS.out _ _ _ ?_ ?_ ?_) ?_; (exact HT.out.below H2.out.1); (exact HU.out.below H2.out.1); (exact HX.out.below H2.out.1); intro e w1 h; obtain ⟨v1, y1, rfl, ho1, ho2, hb1⟩ := h; obtain ⟨B1, d1, rfl⟩ := own_slice' ho1; obtain ⟨B2, d2, rfl⟩ := own_slice' ho2; have h3 := Lib.hid (H2.out.below hb1); have HO1 := Lib.hid ho1; have HO2 := Lib.hid ho2; have hm2 := cell_of_heap h3.out.2.2.2.1 0 _ rfl; have hm3 := cell_of_heap h3.out.2.2.2.1 1 _ rfl; clear ho1 ho2)
    | (go_at_call_of 32 (Value.slice A1 is'.length c1); refine Calls.mono (canonical_any is' ls' HQ1.out.2.2.1 HQ1.out.2.2.2 HS'.out _ _ _ ?_ ?_ ?_) ?_; (exact HT.out.below h3.out.1); (exact HU'.out.below h3.out.1); (exact HX'.out.below h3.out.1); intro e w2 h; obtain ⟨v3, y3, rfl, ho3, ho4, hb2⟩ := h; obtain ⟨B3, d3, rfl⟩ := own_slice' ho3; obtain ⟨B4, d4, rfl⟩ := own_slice' ho4; have h4 := Lib.hid (h3.out.below hb2); have HO3 := Lib.hid ho3; have HO4 := Lib.hid ho4; clear ho3 ho4; have hn0 := cell_of_heap h4.out.2.2.1 0 _ rfl; have hn1 := cell_of_heap h4.out.2.2.1 1 _ rfl; have hn2 := cell_of_heap h4.out.2.2.2.1 0 _ rfl; have hn3 := cell_of_heap h4.out.2.2.2.1 1 _ rfl; have hz0 := frozen_of h4.out.2.2.1 0; have hz1 := frozen_of h4.out.2.2.1 1; have hz2 := frozen_of h4.out.2.2.2.1 0; have hz3 := frozen_of h4.out.2.2.2.1 1))
  all_goals
    have hB0 := H2.out.2.1
    have hB1 := h3.out.2.1
    have h5 := h4.out.sets (.slice B1 (canI is).length d1) (.slice B2 (canN is ls).length d2) (.slice B3 (canI is').length d3) (.slice B4 (canN is' ls').length d4)
    have r1 := sets_owns (w := w) (owns_below HO1.out hb2) (by omega) (.slice B1 (canI is).length d1) (.slice B2 (canN is ls).length d2) (.slice B3 (canI is').length d3) (.slice B4 (canN is' ls').length d4)
    have r2 := sets_owns (w := w) (owns_below HO2.out hb2) (by omega) (.slice B1 (canI is).length d1) (.slice B2 (canN is ls).length d2) (.slice B3 (canI is').length d3) (.slice B4 (canN is' ls').length d4)
    have r3 := sets_owns (w := w) HO3.out (by omega) (.slice B1 (canI is).length d1) (.slice B2 (canN is ls).length d2) (.slice B3 (canI is').length d3) (.slice B4 (canN is' ls').length d4)
    have r4 := sets_owns (w := w) HO4.out (by omega) (.slice B1 (canI is).length d1) (.slice B2 (canN is ls).length d2) (.slice B3 (canI is').length d3) (.slice B4 (canN is' ls').length d4)
    have hlt1 := Lib.hid fun k hk => (HO1.out.lt k hk).2
    have hlt2 := Lib.hid fun k hk => (HO2.out.lt k hk).2
    clear hk0 hk1 hk2 hk3 hm2 hm3 hn0 hn1 hn2 hn3 hz0 hz1 hz2 hz3
    generalize ((((w2.setCell ⟨w.heap.size, 0, none⟩ (.slice B1 (canI is).length d1)).setCell ⟨w.heap.size, 1, none⟩ (.slice B2 (canN is ls).length d2)).setCell ⟨w.heap.size + 1, 0, none⟩ (.slice B3 (canI is').length d3)).setCell ⟨w.heap.size + 1, 1, none⟩ (.slice B4 (canN is' ls').length d4)) = w3 at h5 r1 r2 r3 r4 ⊢
    have hci := canI_length is
    have HD := Lib.hid (deleteInt_any (canI is) (canI is') (by omega) _ _ (w.heap.size + 1) _ _ _ w3 h5.2.2.2.1 (by omega) r1 r3 hlt1.out)
    have hk0 := cell_of_heap h5.2.2.1 0 _ rfl
    have H5 := Lib.hid h5
    have R2 := Lib.hid r2
    have R4 := Lib.hid r4
    clear r1 r2 r3 r4 h5
    go_wp2_with fail
    refine HD.out.mono ?_
    rintro e w4 ⟨v5, rfl, ho5, hup, hb4⟩
    obtain ⟨B5, n5, d5, rfl⟩ := own_sl ho5
    have h6 := H5.out.upto hb4 (by omega)
    have hf0 := cell_of_heap h6.2.2.1 0 _ rfl
    have hf1 := cell_of_heap h6.2.2.1 1 _ rfl
    have hz0 := frozen_of h6.2.2.1 0
    have h7 := Lib.hid (h6.set0 (.slice B5 n5 d5))
    have R5 := Lib.hid (setB_owns (w := w) ho5 (by omega) 0 (.slice B5 n5 d5))
    have hcn := canS_length is ls
    have hcn' : (canN is ls).length ≤ ls.length := by unfold canS at hcn; rwa [List.length_map] at hcn
    have HD2 := Lib.hid (deleteName_any (canN is ls) (canN is' ls') (by omega) _ _ (w.heap.size + 1) _ _ _ _ h7.out.2.2.2.1 (by omega) (setB_owns (w := w) (hup.owns R2.out (by decide)) (by omega) 0 (.slice B5 n5 d5)) (setB_owns (w := w) (hup.owns R4.out (by decide)) (by omega) 0 (.slice B5 n5 d5)) hlt2.out)
    clear ho5 hup h6 hk0
    go_wp2_with fail
    refine HD2.out.mono ?_
    rintro e w6 ⟨v7, rfl, ho7, hup2, hb6⟩
    obtain ⟨B7, n7, d7, rfl⟩ := own_sl ho7
    have h8 := h7.out.upto hb6 (by omega)
    have hg0 := cell_of_heap h8.2.2.1 0 _ rfl
    have hg1 := cell_of_heap h8.2.2.1 1 _ rfl
    have hz1 := frozen_of h8.2.2.1 1
    have h9 := Lib.hid (h8.set1 (.slice B7 n7 d7))
    have R8 := Lib.hid (setB_owns (w := w) (hup2.owns R5.out (by decide)) (by omega) 1 (.slice B7 n7 d7))
    have R9 := Lib.hid (setB_owns (w := w) ho7 (by omega) 1 (.slice B7 n7 d7))
    have HCN := Lib.hid (canonical_any ((canI is).filter fun n => !hasB n (canI is')) (((canN is ls).filter fun n => !hasB n.1 (canS is' ls')).map fun n : Nm => n.1) (by have := List.length_filter_le (fun n => !hasB n (canI is')) (canI is); omega) (by have := List.length_filter_le (fun n : Nm => !hasB n.1 (canS is' ls')) (canN is ls); rw [List.length_map]; omega) (by
      intro y hy
      obtain ⟨n, -, rfl⟩ := List.mem_map.1 hy
      exact n.2.2) _ _ _ (HT.out.below h9.out.1) (Rd.of_own (e := 3) R8.out) (rd_nms R9.out))
    clear ho7 hup2 h8 hf0 hf1 hz0
    go_wp2_with fail
    refine HCN.out.mono ?_
    rintro e w8 ⟨v9, y9, rfl, ho9, ho10, hb8⟩
    have h10 := h9.out.below hb8
    have hge := h9.out.2.1
    obtain ⟨p, q, hres⟩ := h10.2.2.2.2
    have hr0 := cell_of_heap hres 0 _ rfl
    have hr1 := cell_of_heap hres 1 _ rfl
    have hz0 := frozen_of hres 0
    have hz2 := frozen_of hres 1
    have HO9 := Lib.hid ho9
    have HO10 := Lib.hid ho10
    obtain ⟨B9, n9, d9, rfl⟩ := own_sl ho9
    obtain ⟨B10, n10, d10, rfl⟩ := own_sl ho10
    clear ho9 ho10 hg0 hg1 hz1
    go_wp2_with fail
    have hh : ((w8.setCell ⟨w.heap.size + 1 + 1, 0, none⟩ (.slice B9 n9 d9)).setCell ⟨w.heap.size + 1 + 1, 1, none⟩ (.slice B10 n10 d10)).heap[w.heap.size + 2]? = some (.cells #[.slice B9 n9 d9, .slice B10 n10 d10] 29 (0, 0)) := heap_set (heap_set hres 0 _) 1 _
    refine bodyPost_ret (results_cell_row rfl _ _ (w.heap.size + 2) 29 _ (0, 0) _ rfl hh hu29 rfl Tryz_size29) rfl ?_
    refine ⟨_, rfl, ⟨_, _, rfl, Rd.of_own (e := 3) (ownsRow_setCell_below (ownsRow_setCell_below HO9.out ?_ _) ?_ _), rd_nms (ownsRow_setCell_below (ownsRow_setCell_below HO10.out ?_ _) ?_ _)⟩, (h10.1.setCell ?_ _).setCell ?_ _⟩
    · show w.heap.size + 2 < _; omega
    · show w.heap.size + 2 < _; omega
    · show w.heap.size + 2 < _; omega
    · show w.heap.size + 2 < _; omega
    · show w.heap.size ≤ w.heap.size + 2; omega
    · show w.heap.size ≤ w.heap.size + 2; omega
end Go.Proofs.YtcbgngkalplafaaGreatDoor
