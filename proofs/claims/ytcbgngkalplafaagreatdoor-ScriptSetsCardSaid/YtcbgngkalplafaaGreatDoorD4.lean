/- slices.Equal, Equal, isCanonical. -/
import Derived.Test.YtcbgngkalplafaaGreatDoorD3
import Derived.Test.YtcbgngkalplafaaGreatDoorC6
namespace Go.Proofs.YtcbgngkalplafaaGreatDoor
open Go.RowKit Go.Shelf Lin

set_option maxRecDepth 100000 in
set_option maxHeartbeats 4000000 in
theorem equalInt_any (l m : List Int) (u v : Value) (w : World) (hu : Rd (Value.int .i64) w u l) (hv : Rd (Value.int .i64) w v m) :
    Calls Tryz.prog 47 #[u, v] w fun e w' => e = .returned (.bool (decide (l = m))) ∧ Below w.heap.size w w' := by
  obtain ⟨A, c, rfl, hl⟩ := hu.slice
  obtain ⟨A', c', rfl, hm⟩ := hv.slice
  have HU := Lib.hid hu
  have HV := Lib.hid hv
  clear hu hv
  by_cases hlen : l.length = m.length
  · have HE := Lib.hid (comm_eq l m hlen)
    have hlb : ((l.length : Int) == (m.length : Int)) = true := by rw [beq_iff_eq]; omega
    go_enter Tryz.func47, Tryz.ntmps47
    go_wp2
    repeat (go_quiet (fail); try go_wp2)
    go_loopw [13] (fun a wr => ∃ j : Nat, a = .int .i64 j ∧ j ≤ comm l m ∧ Below w.heap.size w wr) (fun a _ => comm l m - (intOf a).toNat)
    case atStart => exact ⟨0, rfl, by omega, by repeat' (first | exact Below.refl _ _ | apply bdrew)⟩
    case round =>
      obtain ⟨j, rfl, hj, hb⟩ := hrel
      have hc := comm_le l m
      by_cases h1 : j < l.length
      · have h1' : (j : Int) < (l.length : Int) := by omega
        obtain ⟨-, -, b, off, rfl, hx⟩ := (HU.out.below hb).at (by omega)
        have hx := hx j h1
        have h2 : j < m.length := by omega
        have h2' : (j : Int) < (m.length : Int) := by omega
        obtain ⟨-, -, b', off', rfl, hy⟩ := (HV.out.below hb).at (by omega)
        have hy := hy j h2
        by_cases h3 : j < comm l m
        · have he : (l[j] == m[j]) = true := by simp [comm_lt l m j h3 h1 h2]
          go_wp2
          repeat (go_quiet (fail); try go_wp2)
          go_round
          case rel => exact ⟨j + 1, by go_num, by omega, by repeat' (first | exact hb | apply bdrew)⟩
          case measure => simp [intOf]; omega
        · obtain rfl : j = comm l m := by omega
          have he : (l[comm l m] == m[comm l m]) = false := by simpa using comm_at l m h1 h2
          have HN := Lib.hid (show decide (l = m) = false by
            rw [decide_eq_false_iff_not, ← HE.out]; omega)
          go_wp2
          repeat (go_quiet (fail); try go_wp2)
          go_ret
          exact ⟨by rw [HN.out]; rfl, by repeat' (first | exact hb | apply bdrew)⟩
      · have h1' : ¬ (j : Int) < (l.length : Int) := by omega
        have HN := Lib.hid (show decide (l = m) = true by
          rw [decide_eq_true_eq, ← HE.out]; omega)
        go_wp2
        repeat (go_quiet (fail); try go_wp2)
        go_ret
        exact ⟨by rw [HN.out]; rfl, by repeat' (first | exact hb | apply bdrew)⟩
  · have hlb : ((l.length : Int) == (m.length : Int)) = false := by rw [beq_eq_false_iff_ne]; omega
    have HN := Lib.hid (show decide (l = m) = false by
      rw [decide_eq_false_iff_not]; intro h; rw [h] at hlen; exact hlen rfl)
    go_enter Tryz.func47, Tryz.ntmps47
    go_wp2
    repeat (go_quiet (fail); try go_wp2)
    go_ret
    exact ⟨by rw [HN.out]; rfl, by repeat' (first | exact Below.refl _ _ | apply bdrew)⟩

set_option maxRecDepth 100000 in
set_option maxHeartbeats 4000000 in
theorem equalName_any (l m : List ByteArray) (u v : Value) (w : World) (hu : Rd Value.string w u l) (hv : Rd Value.string w v m) :
    Calls Tryz.prog 48 #[u, v] w fun e w' => e = .returned (.bool (decide (l = m))) ∧ Below w.heap.size w w' := by
  obtain ⟨A, c, rfl, hl⟩ := hu.slice
  obtain ⟨A', c', rfl, hm⟩ := hv.slice
  have HU := Lib.hid hu
  have HV := Lib.hid hv
  clear hu hv
  by_cases hlen : l.length = m.length
  · have HE := Lib.hid (comm_eq l m hlen)
    have hlb : ((l.length : Int) == (m.length : Int)) = true := by rw [beq_iff_eq]; omega
    go_enter Tryz.func48, Tryz.ntmps48
    go_wp2
    repeat (go_quiet (fail); try go_wp2)
    go_loopw [13] (fun a wr => ∃ j : Nat, a = .int .i64 j ∧ j ≤ comm l m ∧ Below w.heap.size w wr) (fun a _ => comm l m - (intOf a).toNat)
    case atStart => exact ⟨0, rfl, by omega, by repeat' (first | exact Below.refl _ _ | apply bdrew)⟩
    case round =>
      obtain ⟨j, rfl, hj, hb⟩ := hrel
      have hc := comm_le l m
      by_cases h1 : j < l.length
      · have h1' : (j : Int) < (l.length : Int) := by omega
        obtain ⟨-, -, b, off, rfl, hx⟩ := (HU.out.below hb).at (by omega)
        have hx := hx j h1
        have h2 : j < m.length := by omega
        have h2' : (j : Int) < (m.length : Int) := by omega
        obtain ⟨-, -, b', off', rfl, hy⟩ := (HV.out.below hb).at (by omega)
        have hy := hy j h2
        by_cases h3 : j < comm l m
        · have he : (l[j].toList == m[j].toList) = true := by rw [str_eq, comm_lt l m j h3 h1 h2]; simp
          go_wp2
          repeat (go_quiet (fail); try go_wp2)
          go_round
          case rel => exact ⟨j + 1, by go_num, by omega, by repeat' (first | exact hb | apply bdrew)⟩
          case measure => simp [intOf]; omega
        · obtain rfl : j = comm l m := by omega
          have he : (l[comm l m].toList == m[comm l m].toList) = false := by rw [str_eq]; simpa using comm_at l m h1 h2
          have HN := Lib.hid (show decide (l = m) = false by
            rw [decide_eq_false_iff_not, ← HE.out]; omega)
          go_wp2
          repeat (go_quiet (fail); try go_wp2)
          go_ret
          exact ⟨by rw [HN.out]; rfl, by repeat' (first | exact hb | apply bdrew)⟩
      · have h1' : ¬ (j : Int) < (l.length : Int) := by omega
        have HN := Lib.hid (show decide (l = m) = true by
          rw [decide_eq_true_eq, ← HE.out]; omega)
        go_wp2
        repeat (go_quiet (fail); try go_wp2)
        go_ret
        exact ⟨by rw [HN.out]; rfl, by repeat' (first | exact hb | apply bdrew)⟩
  · have hlb : ((l.length : Int) == (m.length : Int)) = false := by rw [beq_eq_false_iff_ne]; omega
    have HN := Lib.hid (show decide (l = m) = false by
      rw [decide_eq_false_iff_not]; intro h; rw [h] at hlen; exact hlen rfl)
    go_enter Tryz.func48, Tryz.ntmps48
    go_wp2
    repeat (go_quiet (fail); try go_wp2)
    go_ret
    exact ⟨by rw [HN.out]; rfl, by repeat' (first | exact Below.refl _ _ | apply bdrew)⟩


/-- Two boxes of type Without, laid first of all. -/
def Bx2 (w : World) (u x u' x' : Value) (W : World) : Prop :=
  Below w.heap.size w W ∧ w.heap.size + 2 ≤ W.heap.size ∧ W.heap[w.heap.size]? = some (.cells #[u, x] 29 (0, 0)) ∧ W.heap[w.heap.size + 1]? = some (.cells #[u', x'] 29 (0, 0))
theorem Bx2.start (w : World) (u x u' x' : Value) : Bx2 w u x u' x' ((w.alloc (.cells #[u, x] 29)).alloc (.cells #[u', x'] 29)) :=
  ⟨((Below.refl _ _).alloc (Nat.le_refl _) _).alloc (by rw [sizeA]; omega) _, by rw [sizeA, sizeA]; omega, by
    rw [Below.heap_alloc _ _ _ (by rw [sizeA]; omega)]; exact heapA _ _, heapA2 _ _ _⟩
theorem Bx2.below {w W W' : World} {u x u' x' : Value} (h : Bx2 w u x u' x' W) (hb : Below W.heap.size W W') : Bx2 w u x u' x' W' := by
  obtain ⟨h1, h2, h3, h4⟩ := h
  exact ⟨below_then h1 (by omega) hb, Nat.le_trans h2 hb.size, (hb.block _ (by omega)).trans h3, (hb.block _ (by omega)).trans h4⟩
theorem Bx2.drew {w W : World} {u x u' x' : Value} (h : Bx2 w u x u' x' W) : Bx2 w u x u' x' W.drew := h.below (bdrew1 (Below.refl _ _))

theorem Bx2.sets {w W : World} {u x u' x' : Value} (h : Bx2 w u x u' x' W) (a b c d : Value) : Bx2 w a b c d ((((W.setCell ⟨w.heap.size, 0, none⟩ a).setCell ⟨w.heap.size, 1, none⟩ b).setCell ⟨w.heap.size + 1, 0, none⟩ c).setCell ⟨w.heap.size + 1, 1, none⟩ d) := by
  obtain ⟨h1, h2, h3, h4⟩ := h
  refine ⟨(((h1.setCell (Nat.le_refl _) _).setCell (Nat.le_refl _) _).setCell (by show w.heap.size ≤ w.heap.size + 1; omega) _).setCell (by show w.heap.size ≤ w.heap.size + 1; omega) _, by simpa [World.setCell] using h2, ?_, ?_⟩
  · refine (Below.heap_setCell _ _ _ _ (by show w.heap.size ≠ w.heap.size + 1; omega)).trans ((Below.heap_setCell _ _ _ _ (by show w.heap.size ≠ w.heap.size + 1; omega)).trans ?_)
    exact heap_set (heap_set h3 0 _) 1 _
  · refine heap_set (heap_set (?_ : (World.setCell _ _ _).heap[w.heap.size + 1]? = some (.cells #[u', x'] 29 (0, 0))) 0 _) 1 _
    exact (Below.heap_setCell _ _ _ _ (by show w.heap.size + 1 ≠ w.heap.size; omega)).trans ((Below.heap_setCell _ _ _ _ (by show w.heap.size + 1 ≠ w.heap.size; omega)).trans h4)
theorem sets_owns {w W : World} {B n : Nat} {e : TypeId} {v : Value} {xs : List Value} (h : W.ownsRow B e 1 v n xs) (hB : w.heap.size + 2 ≤ B) (a b c d : Value) : ((((W.setCell ⟨w.heap.size, 0, none⟩ a).setCell ⟨w.heap.size, 1, none⟩ b).setCell ⟨w.heap.size + 1, 0, none⟩ c).setCell ⟨w.heap.size + 1, 1, none⟩ d).ownsRow B e 1 v n xs :=
  ownsRow_setCell_below (ownsRow_setCell_below (ownsRow_setCell_below (ownsRow_setCell_below h (by show w.heap.size < B; omega) _) (by show w.heap.size < B; omega) _) (by show w.heap.size + 1 < B; omega) _) (by show w.heap.size + 1 < B; omega) _

set_option maxRecDepth 100000 in
set_option maxHeartbeats 8000000 in
theorem equalW_any (is : List Int) (ls : List ByteArray) (is' : List Int) (ls' : List ByteArray) (hi1 : is.length ≤ 1000) (hl1 : ls.length ≤ 1000) (hi2 : is'.length ≤ 1000) (hl2 : ls'.length ≤ 1000) (hs : ∀ x ∈ ls, x.size ≤ 9223372036854775807) (hs' : ∀ x ∈ ls', x.size ≤ 9223372036854775807) (v v' : Value) (w : World) (hT : TabOk w) (hv : RdW w v is ls) (hv' : RdW w v' is' ls') :
    Calls Tryz.prog 24 #[v, v'] w fun e w' => e = .returned (.bool (decide (canI is = canI is') && decide (canS is ls = canS is' ls'))) ∧ Below w.heap.size w w' := by
  obtain ⟨u, x, rfl, hu, hx⟩ := hv
  obtain ⟨u', x', rfl, hu', hx'⟩ := hv'
  have hu29 := Tryz.underlying29
  have HU := Lib.hid hu
  have HX := Lib.hid hx
  have HU' := Lib.hid hu'
  have HX' := Lib.hid hx'
  have HT := Lib.hid hT
  have HS := Lib.hid hs
  have HS' := Lib.hid hs'
  obtain ⟨A, c, rfl, hlen⟩ := hu.slice
  obtain ⟨A', c', rfl, hlen'⟩ := hx.slice
  obtain ⟨A1, c1, rfl, hlen1⟩ := hu'.slice
  obtain ⟨A2, c2, rfl, hlen2⟩ := hx'.slice
  clear hu hx hu' hx' hT hs hs'
  have H2 := Lib.hid (Bx2.start w (.slice A is.length c) (.slice A' ls.length c') (.slice A1 is'.length c1) (.slice A2 ls'.length c2)).drew
  have HQ1 := Lib.hid (show is.length ≤ 1000000 ∧ ls.length ≤ 1000000 ∧ is'.length ≤ 1000000 ∧ ls'.length ≤ 1000000 by omega)
  generalize hr : (decide (canI is = canI is') && decide (canS is ls = canS is' ls')) = r
  have HR := Lib.hid hr
  clear hr
  go_enter Tryz.func24, Tryz.ntmps24
  go_wp2_with fail
  generalize ((w.alloc (.cells #[.slice A is.length c, .slice A' ls.length c'] 29)).alloc (.cells #[.slice A1 is'.length c1, .slice A2 ls'.length c2] 29)) = W0 at H2 ⊢
  have hk0 := cell_of_heap H2.out.2.2.1 0 _ rfl
  have hk1 := cell_of_heap H2.out.2.2.1 1 _ rfl
  have hk2 := cell_of_heap H2.out.2.2.2 0 _ rfl
  have hk3 := cell_of_heap H2.out.2.2.2 1 _ rfl
  go_region_with (first
    | (go_at_call_of 32 (Value.slice A is.length c); refine Calls.mono (canonical_any is ls HQ1.out.1 HQ1.out.2.1 HS.out _ _ _ ?_ ?_ ?_) ?_; (exact HT.out.below H2.out.1); (exact HU.out.below H2.out.1); (exact HX.out.below H2.out.1); intro e w1 h; obtain ⟨v1, y1, rfl, ho1, ho2, hb1⟩ := h; obtain ⟨B1, d1, rfl⟩ := own_slice' ho1; obtain ⟨B2, d2, rfl⟩ := own_slice' ho2; have h3 := Lib.hid (H2.out.below hb1); have HO1 := Lib.hid ho1; have HO2 := Lib.hid ho2; have hm2 := cell_of_heap h3.out.2.2.2 0 _ rfl; have hm3 := cell_of_heap h3.out.2.2.2 1 _ rfl; clear ho1 ho2)
    | (go_at_call_of 32 (Value.slice A1 is'.length c1); refine Calls.mono (canonical_any is' ls' HQ1.out.2.2.1 HQ1.out.2.2.2 HS'.out _ _ _ ?_ ?_ ?_) ?_; (exact HT.out.below h3.out.1); (exact HU'.out.below h3.out.1); (exact HX'.out.below h3.out.1); intro e w2 h; obtain ⟨v3, y3, rfl, ho3, ho4, hb2⟩ := h; obtain ⟨B3, d3, rfl⟩ := own_slice' ho3; obtain ⟨B4, d4, rfl⟩ := own_slice' ho4; have h4 := Lib.hid (h3.out.below hb2); have HO3 := Lib.hid ho3; have HO4 := Lib.hid ho4; clear ho3 ho4; have hn0 := cell_of_heap h4.out.2.2.1 0 _ rfl; have hn1 := cell_of_heap h4.out.2.2.1 1 _ rfl; have hn2 := cell_of_heap h4.out.2.2.2 0 _ rfl; have hn3 := cell_of_heap h4.out.2.2.2 1 _ rfl; have hz0 := frozen_of h4.out.2.2.1 0; have hz1 := frozen_of h4.out.2.2.1 1; have hz2 := frozen_of h4.out.2.2.2 0; have hz3 := frozen_of h4.out.2.2.2 1))
  all_goals
    have hB0 := H2.out.2.1
    have hB1 := h3.out.2.1
    have h5 := h4.out.sets (.slice B1 (canI is).length d1) (.slice B2 (canN is ls).length d2) (.slice B3 (canI is').length d3) (.slice B4 (canN is' ls').length d4)
    have r1 := sets_owns (w := w) (owns_below HO1.out hb2) (by first | exact hB0 | exact hB1) (.slice B1 (canI is).length d1) (.slice B2 (canN is ls).length d2) (.slice B3 (canI is').length d3) (.slice B4 (canN is' ls').length d4)
    have r2 := sets_owns (w := w) (owns_below HO2.out hb2) (by first | exact hB0 | exact hB1) (.slice B1 (canI is).length d1) (.slice B2 (canN is ls).length d2) (.slice B3 (canI is').length d3) (.slice B4 (canN is' ls').length d4)
    have r3 := sets_owns (w := w) HO3.out hB1 (.slice B1 (canI is).length d1) (.slice B2 (canN is ls).length d2) (.slice B3 (canI is').length d3) (.slice B4 (canN is' ls').length d4)
    have r4 := sets_owns (w := w) HO4.out hB1 (.slice B1 (canI is).length d1) (.slice B2 (canN is ls).length d2) (.slice B3 (canI is').length d3) (.slice B4 (canN is' ls').length d4)
    clear hk0 hk1 hk2 hk3 hm2 hm3 hn0 hn1 hn2 hn3 hz0 hz1 hz2 hz3
    generalize ((((w2.setCell ⟨w.heap.size, 0, none⟩ (.slice B1 (canI is).length d1)).setCell ⟨w.heap.size, 1, none⟩ (.slice B2 (canN is ls).length d2)).setCell ⟨w.heap.size + 1, 0, none⟩ (.slice B3 (canI is').length d3)).setCell ⟨w.heap.size + 1, 1, none⟩ (.slice B4 (canN is' ls').length d4)) = w3 at h5 r1 r2 r3 r4 ⊢
    have HC := Lib.hid (equalInt_any (canI is) (canI is') _ _ w3 (Rd.of_own (e := 3) r1) (Rd.of_own (e := 3) r3))
    have HR2 := Lib.hid (rd_nms r2)
    have HR4 := Lib.hid (rd_nms r4)
    have hk0 := cell_of_heap h5.2.2.1 0 _ rfl
    have hk2 := cell_of_heap h5.2.2.2 0 _ rfl
    have H5 := Lib.hid h5
    clear r1 r2 r3 r4 h5
    go_wp2_with fail
    refine HC.out.mono ?_
    rintro e w4 ⟨rfl, hb4⟩
    have h6 := H5.out.below hb4
    cases hq : decide (canI is = canI is') with
    | false =>
      have HF := Lib.hid (show r = false by rw [← HR.out, hq]; rfl)
      clear hq
      go_wp2_with fail
      go_ret
      exact ⟨by rw [HF.out]; rfl, h6.1⟩
    | true =>
      have hk1 := cell_of_heap h6.2.2.1 1 _ rfl
      have hk3 := cell_of_heap h6.2.2.2 1 _ rfl
      have HC2 := Lib.hid (equalName_any (canS is ls) (canS is' ls') _ _ w4 (HR2.out.below hb4) (HR4.out.below hb4))
      have HF := Lib.hid (show r = decide (canS is ls = canS is' ls') by rw [← HR.out, hq, Bool.true_and])
      have H6 := Lib.hid h6
      clear hq h6 hk0 hk2
      go_wp2_with fail
      refine HC2.out.mono ?_
      rintro e w5 ⟨rfl, hb5⟩
      have h7 := H6.out.below hb5
      go_wp2_with fail
      go_ret
      exact ⟨by rw [HF.out]; rfl, h7.1⟩

set_option maxRecDepth 100000 in
set_option maxHeartbeats 8000000 in
theorem isCanonical_any (is : List Int) (ls : List ByteArray) (hi1 : is.length ≤ 1000) (hl1 : ls.length ≤ 1000) (hs : ∀ x ∈ ls, x.size ≤ 9223372036854775807) (v : Value) (w : World) (hT : TabOk w) (hv : RdW w v is ls) :
    Calls Tryz.prog 23 #[v] w fun e w' => e = .returned (.bool (decide (is = canI is) && decide (ls = canS is ls))) ∧ Below w.heap.size w w' := by
  obtain ⟨u, x, rfl, hu, hx⟩ := hv
  have hu29 := Tryz.underlying29
  have HU := Lib.hid hu
  have HX := Lib.hid hx
  have HT := Lib.hid hT
  have HS := Lib.hid hs
  obtain ⟨A, c, rfl, hlen⟩ := hu.slice
  obtain ⟨A', c', rfl, hlen'⟩ := hx.slice
  have HB := Lib.hid ((Below.refl w.heap.size w).alloc (Nat.le_refl _) (.cells #[.slice A is.length c, .slice A' ls.length c'] 29))
  clear hu hx hT hs
  generalize hr : (decide (is = canI is) && decide (ls = canS is ls)) = r
  have HR := Lib.hid hr
  clear hr
  go_enter Tryz.func23, Tryz.ntmps23
  go_wp2_with fail
  refine (lcanonical_any is ls (by omega) (by omega) HS.out _ _ _ (HT.out.below HB.out) (HU.out.below HB.out) (HX.out.below HB.out)).mono ?_
  rintro e w1 ⟨v1, y1, rfl, ho1, ho2, hb1⟩
  have hbw := below_then HB.out HB.out.size hb1
  obtain ⟨A1, c1, rfl⟩ := own_slice' ho1
  obtain ⟨A2, c2, rfl⟩ := own_slice' ho2
  have hba := (Below.refl w1.heap.size w1).alloc (Nat.le_refl _) (.cells #[.slice A1 (canI is).length c1, .slice A2 (canN is ls).length c2] 29)
  have hbwa := below_then hbw hbw.size hba
  have HBA := Lib.hid hbwa
  have HC := Lib.hid (sameNumbers_any is (canI is) _ _ _ (HU.out.below hbwa) ((Rd.of_own (e := 3) ho1).below hba))
  have HR2 := Lib.hid ((rd_nms ho2).below hba)
  have hh := (hb1.block w.heap.size (by rw [sizeA]; omega)).trans (heapA w (.cells #[.slice A is.length c, .slice A' ls.length c'] 29))
  have hk0 := cellO (.cells #[.slice A1 (canI is).length c1, .slice A2 (canN is ls).length c2] 29) (cell_of_heap hh 0 _ rfl)
  have hk1 := cellO (.cells #[.slice A1 (canI is).length c1, .slice A2 (canN is ls).length c2] 29) (cell_of_heap hh 1 _ rfl)
  have hk2 := cellA w1 #[.slice A1 (canI is).length c1, .slice A2 (canN is ls).length c2] 29 0 _ rfl
  have hk3 := cellA w1 #[.slice A1 (canI is).length c1, .slice A2 (canN is ls).length c2] 29 1 _ rfl
  clear hba hbwa
  have hfd := field29_0 A1 A2 (canI is).length c1 (canN is ls).length c2
  have hfd2 := field29_1 A1 A2 (canI is).length c1 (canN is ls).length c2
  clear ho1 ho2
  go_wp2_with fail
  refine HC.out.mono ?_
  rintro e w2 ⟨rfl, hb2⟩
  have hbw2 := below_then HBA.out HBA.out.size hb2
  cases hq : decide (is = canI is) with
  | false =>
    have HF := Lib.hid (show r = false by rw [← HR.out, hq]; rfl)
    clear hq
    go_wp2_with fail
    go_ret
    exact ⟨by rw [HF.out]; rfl, hbw2⟩
  | true =>
    have HC2 := Lib.hid (sameNames_any ls (canS is ls) _ _ w2 (HX.out.below hbw2) (HR2.out.below hb2))
    have HF := Lib.hid (show r = decide (ls = canS is ls) by rw [← HR.out, hq, Bool.true_and])
    have hm1 := (hb2.cell (World.block_lt_of_cell? _ _ hk1)).trans hk1
    have hm3 := (hb2.cell (World.block_lt_of_cell? _ _ hk3)).trans hk3
    clear hq hk0 hk1 hk2 hk3
    go_wp2_with fail
    refine HC2.out.mono ?_
    rintro e w3 ⟨rfl, hb3⟩
    go_wp2_with fail
    go_ret
    exact ⟨by rw [HF.out]; rfl, below_then hbw2 hbw2.size hb3⟩
end Go.Proofs.YtcbgngkalplafaaGreatDoor
