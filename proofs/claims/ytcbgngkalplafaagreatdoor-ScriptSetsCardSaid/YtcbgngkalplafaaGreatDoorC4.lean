/- process, rooted; sort and compact of numbers that are owned; what canonical's variables hold. -/
import Derived.Test.YtcbgngkalplafaaGreatDoorC3
namespace Go.Proofs.YtcbgngkalplafaaGreatDoor
open Go.RowKit Go.Shelf

theorem toList_empty : ByteArray.empty.toList = [] := by rw [Lib.toList_data]; rfl
def okN (n : ByteArray) : Bool := decide (n ≠ ByteArray.empty) && validB n

set_option maxRecDepth 100000 in
set_option maxHeartbeats 4000000 in
theorem process_any (n : ByteArray) (hn : n.size ≤ 9223372036854775807) (w : World) :
    Calls Tryz.prog 54 #[.string n] w fun e w' => e = .returned (.bool (okN n)) ∧ Below w.heap.size w w' := by
  by_cases h : n = ByteArray.empty
  · have HR := Lib.hid (show okN n = false by simp [okN, h])
    have hq : (n.toList == ([] : List UInt8)) = true := by rw [h, toList_empty]; rfl
    have hq2 : n.toList.isEmpty = true := by rw [h, toList_empty]; rfl
    clear h
    go_enter Tryz.func54, Tryz.ntmps54
    go_wp2_with fail
    go_ret
    exact ⟨by rw [HR.out]; rfl, by repeat' (first | exact Below.refl _ _ | apply bdrew)⟩
  · have HR := Lib.hid (show okN n = validB n by simp [okN, h])
    have hne : n.toList ≠ [] := by
      intro e
      apply h
      have h2 := str_eq n ByteArray.empty
      rw [e] at h2
      have h3 : (([] : List UInt8) == ByteArray.empty.toList) = true := by rw [toList_empty]; rfl
      rw [h3] at h2
      exact of_decide_eq_true h2.symm
    have hq : (n.toList == ([] : List UInt8)) = false := by rw [beq_eq_false_iff_ne]; exact hne
    have hq2 : n.toList.isEmpty = false := by rw [← Bool.not_eq_true, List.isEmpty_iff]; exact hne
    clear h hne
    go_enter Tryz.func54, Tryz.ntmps54
    go_wp2_with fail
    refine (valid_any atoi_said n hn _).mono ?_
    rintro e w1 ⟨rfl, hb1⟩
    go_wp2
    go_ret
    exact ⟨by rw [HR.out]; rfl, by repeat' (first | exact hb1 | apply bdrew)⟩

/-- n lies within the root process of one of the numbers. -/
def rootedB (is : List Int) (n : ByteArray) : Bool := (rootsL is).any (withinB n)
def at3 (is : List Int) (n : ByteArray) : Nat := is.findIdx fun i => rootOk i && withinB n (rootN i)
theorem rootedB_eq (is : List Int) (n : ByteArray) : rootedB is n = is.any fun i => rootOk i && withinB n (rootN i) := by
  unfold rootedB rootsL
  rw [List.any_map, List.any_filter]
  rfl

set_option maxRecDepth 100000 in
set_option maxHeartbeats 4000000 in
theorem rooted_any (is : List Int) (n : ByteArray) (hn : n.size ≤ 9223372036854775807) (u : Value) (w : World) (hT : TabOk w) (hu : Rd (Value.int .i64) w u is) :
    Calls Tryz.prog 18 #[u, .string n] w fun e w' => e = .returned (.bool (rootedB is n)) ∧ Below w.heap.size w w' := by
  obtain ⟨A, c, rfl, hl⟩ := hu.slice
  have HU := Lib.hid hu
  have HT := Lib.hid hT
  have HE := Lib.hid (rootedB_eq is n)
  generalize rootedB is n = r at HE ⊢
  clear hu hT
  go_enter Tryz.func18, Tryz.ntmps18
  go_wp2
  repeat (go_quiet (fail); try go_wp2)
  go_loopw [5] (fun a wr => ∃ j : Nat, a = .int .i64 j ∧ j ≤ at3 is n ∧ Below w.heap.size w wr) (fun a _ => at3 is n - (intOf a).toNat)
  case atStart => exact ⟨0, rfl, by omega, by repeat' (first | exact Below.refl _ _ | apply bdrew)⟩
  case round =>
    obtain ⟨j, rfl, hj, hb⟩ := hrel
    have hc : at3 is n ≤ is.length := List.findIdx_le_length
    by_cases h1 : j < is.length
    · have h1' : (j : Int) < (is.length : Int) := by omega
      obtain ⟨-, -, b, off, rfl, hx⟩ := (HU.out.below hb).at (by omega)
      have hx := hx j h1
      have HR := Lib.hid (root_any is[j] wr (HT.out.below hb))
      have HP := Lib.hid (show j < at3 is n → (rootOk is[j] && withinB n (rootN is[j])) = false from fun h => by
        have := List.not_of_lt_findIdx h
        exact this)
      have HQ := Lib.hid (show j = at3 is n → (rootOk is[j] && withinB n (rootN is[j])) = true from fun h => by
        have := List.findIdx_getElem (p := fun i => rootOk i && withinB n (rootN i)) (xs := is) (w := by show at3 is n < _; omega)
        rw [← this]
        simp only [h]
        rfl)
      go_wp2_with fail
      refine HR.out.mono ?_
      rintro e w2 ⟨s, er, rfl, hb2, (⟨hr, rfl, rfl⟩ | ⟨hr, rfl⟩)⟩
      · have hb12 := below_then hb hb.size hb2
        have HOK := Lib.hid hr
        clear hr
        go_wp2_with fail
        have hrr := HOK.out
        simp only [rootOk, Bool.and_eq_true, decide_eq_true_eq] at hrr
        refine (within_any atoi_said n (rootN is[j]) hn (by have := rootN_size is[j] (by omega) (by omega); omega) _).mono ?_
        rintro e w3 ⟨rfl, hb3⟩
        have hb13 := below_then hb12 hb12.size hb3
        clear hrr
        by_cases h3 : j < at3 is n
        · have h4 := HP.out h3
          rw [HOK.out, Bool.true_and] at h4
          rw [h4]
          clear h4
          go_wp2
          repeat (go_quiet (fail); try go_wp2)
          go_round
          case rel => exact ⟨j + 1, by go_num, by omega, by repeat' (first | exact hb13 | apply bdrew)⟩
          case measure => simp [intOf]; omega
        · have h5 : j = at3 is n := by omega
          have h4 := HQ.out h5
          rw [HOK.out, Bool.true_and] at h4
          rw [h4]
          have HN := Lib.hid (show r = true by
            rw [HE.out, List.any_eq_true]
            refine ⟨is[j], List.getElem_mem _, ?_⟩
            rw [HOK.out, Bool.true_and]; exact h4)
          clear h4 h5
          go_wp2
          repeat (go_quiet (fail); try go_wp2)
          go_ret
          exact ⟨by rw [HN.out]; rfl, by repeat' (first | exact hb13 | apply bdrew)⟩
      · have hb12 := below_then hb hb.size hb2
        have h3 : j < at3 is n := by
          refine Nat.lt_of_le_of_ne hj fun h => ?_
          have := HQ.out h
          rw [hr, Bool.false_and] at this
          cases this
        clear hr
        go_wp2
        repeat (go_quiet (fail); try go_wp2)
        go_round
        case rel => exact ⟨j + 1, by go_num, by omega, by repeat' (first | exact hb12 | apply bdrew)⟩
        case measure => simp [intOf]; omega
    · have h1' : ¬ (j : Int) < (is.length : Int) := by omega
      have HN := Lib.hid (show r = false by
        rw [HE.out, ← Bool.not_eq_true, List.any_eq_true]
        intro h
        have : at3 is n < is.length := List.findIdx_lt_length.2 h
        omega)
      go_wp2
      repeat (go_quiet (fail); try go_wp2)
      go_ret
      exact ⟨by rw [HN.out]; rfl, by repeat' (first | exact hb | apply bdrew)⟩

def sortedI (l : List Int) : List Int := l.mergeSort fun x y => decide (x ≤ y)
theorem sortedI_length (l : List Int) : (sortedI l).length = l.length := List.length_mergeSort _
theorem sortInts_any (l : List Int) (hl : l.length ≤ 1000000) (B : Nat) (v : Value) (w : World) (hB : B ≤ w.heap.size) (hv : w.ownsRow B 3 1 v l.length (l.map (Value.int .i64))) :
    Calls Tryz.prog 64 #[v] w fun e w' => e = .returned (.tuple #[]) ∧ w'.ownsRow B 3 1 v l.length ((sortedI l).map (Value.int .i64)) ∧ Below B w w' := by
  by_cases hn : v = .slice none 0 0
  · subst hn
    have h0 : l = [] := by
      rcases hv.2 with ⟨_, h⟩ | ⟨g, cap, cur, e, _⟩
      · exact List.eq_nil_of_length_eq_zero h
      · cases e
    subst h0
    refine (Tryz.slices_Sort_int_none none 0 w).mono ?_
    rintro e w' ⟨rfl, rfl⟩
    exact ⟨rfl, by rw [sortedI, List.mergeSort_nil]; exact World.ownsRow_nil _ _ _ _, Below.refl _ _⟩
  · obtain ⟨g, cap, rfl, hg, hlt, hcap, hmax, hlen, hH⟩ := Lib.holds_of_ownsRow hv hn
    refine (Tryz.slices_Sort_int g 0 cap l w hH hlt (by omega)).mono ?_
    rintro e w' ⟨rfl, n, os, rfl⟩
    refine ⟨rfl, ?_, ?_⟩
    · have := Lib.ownsRow_putRow (q := n) (k := l.length) (ys := sortedI l) hv (sortedI_length l) (Nat.le_refl _)
      rw [show (List.take l.length (sortedI l)) = sortedI l by rw [← sortedI_length l, List.take_length]] at this
      exact grow_owns this os
    · exact grow_below (Lib.below_putRow (Below.refl B w) hg) (by simp only [Sort.putRow, Sort.mapBlock, Sort.ahead, Array.size_modify]; exact hB) os
theorem compactInts_any (l : List Int) (hl : l.length ≤ 1000000) (B : Nat) (v : Value) (w : World) (hv : w.ownsRow B 3 1 v l.length (l.map (Value.int .i64))) :
    Calls Tryz.prog 65 #[v] w fun e w' => ∃ v', e = .returned v' ∧ w'.ownsRow B 3 1 v' (Lib.compact l).length ((Lib.compact l).map (Value.int .i64)) ∧ Below B w w' := by
  by_cases hn : v = .slice none 0 0
  · subst hn
    have h0 : l = [] := by
      rcases hv.2 with ⟨_, h⟩ | ⟨g, cap, cur, e, _⟩
      · exact List.eq_nil_of_length_eq_zero h
      · cases e
    subst h0
    refine (Tryz.slices_Compact_int_empty none 0 w).mono ?_
    rintro e w' ⟨rfl, rfl⟩
    exact ⟨_, rfl, World.ownsRow_nil _ _ _ _, Below.refl _ _⟩
  · obtain ⟨g, cap, rfl, hg, hlt, hcap, hmax, hlen, hH⟩ := Lib.holds_of_ownsRow hv hn
    refine (Tryz.slices_Compact_int g 0 cap l w hH (by omega) hcap).mono ?_
    rintro e w' ⟨rfl, q, rfl⟩
    refine ⟨_, rfl, ?_, Lib.below_putRow (Below.refl B w) hg⟩
    have hle := Lib.compact_length_le l
    have := Lib.ownsRow_putRow (q := q) (k := (Lib.compact l).length) (ys := Lib.compact l ++ List.replicate (l.length - (Lib.compact l).length) 0) hv (by simp; omega) hle
    rw [List.take_left] at this
    exact this

/-- What canonical's three variables hold: the argument, the result, out. -/
def Fr (B : Nat) (u x v y : Value) (W : World) : Prop :=
  W.heap[B]? = some (.cells #[u, x] 29 (0, 0)) ∧ W.heap[B + 1]? = some (.cells #[.slice none 0 0, .slice none 0 0] 29 (0, 0)) ∧ W.heap[B + 2]? = some (.cells #[v, y] 29 (0, 0))
theorem frozen_of {W : World} {b : Nat} {cs : Array Value} {t : TypeId} (h : W.heap[b]? = some (.cells cs t (0, 0))) (j : Nat) : W.frozen? ⟨b, j, none⟩ = false := by
  simp [World.frozen?, h]
theorem Fr.below {B C : Nat} {u x v y : Value} {W W' : World} (h : Fr B u x v y W) (hb : Below C W W') (hC : B + 3 ≤ C) : Fr B u x v y W' :=
  ⟨(hb.block B (by omega)).trans h.1, (hb.block (B + 1) (by omega)).trans h.2.1, (hb.block (B + 2) (by omega)).trans h.2.2⟩
theorem heap_set {W : World} {b : Nat} {cs : Array Value} {t : TypeId} {f : Nat × Nat} (h : W.heap[b]? = some (.cells cs t f)) (j : Nat) (v : Value) : (W.setCell ⟨b, j, none⟩ v).heap[b]? = some (.cells (cs.setIfInBounds j v) t f) := by
  simp [World.setCell, Array.getElem?_modify, h]
theorem Fr.set0 {B : Nat} {u x v y : Value} {W : World} (h : Fr B u x v y W) (v' : Value) : Fr B u x v' y (W.setCell ⟨B + 2, 0, none⟩ v') :=
  ⟨(Below.heap_setCell W _ _ B (by simp)).trans h.1, (Below.heap_setCell W _ _ (B + 1) (by simp)).trans h.2.1, heap_set h.2.2 0 v'⟩
theorem Fr.set1 {B : Nat} {u x v y : Value} {W : World} (h : Fr B u x v y W) (y' : Value) : Fr B u x v y' (W.setCell ⟨B + 2, 1, none⟩ y') :=
  ⟨(Below.heap_setCell W _ _ B (by simp)).trans h.1, (Below.heap_setCell W _ _ (B + 1) (by simp)).trans h.2.1, heap_set h.2.2 1 y'⟩
/-- But for block b all that lay below C lies as it lay. -/
def Rest (b C : Nat) (w w' : World) : Prop := w.heap.size ≤ w'.heap.size ∧ ∀ i, i < C → i ≠ b → w'.heap[i]? = w.heap[i]?
theorem Rest.refl (b C : Nat) (w : World) : Rest b C w w := ⟨Nat.le_refl _, fun _ _ _ => rfl⟩
theorem Rest.below {b C : Nat} {w w1 w2 : World} (h : Rest b C w w1) (hb : Below C w1 w2) : Rest b C w w2 :=
  ⟨Nat.le_trans h.1 hb.size, fun i hi hne => (hb.block i hi).trans (h.2 i hi hne)⟩
theorem Rest.set {b C : Nat} {w w1 : World} (h : Rest b C w w1) (j : Nat) (v : Value) : Rest b C w (w1.setCell ⟨b, j, none⟩ v) :=
  ⟨by have := h.1; simpa [World.setCell] using this, fun i hi hne => (Below.heap_setCell w1 ⟨b, j, none⟩ v i (fun e => hne e)).trans (h.2 i hi hne)⟩
theorem Rest.owns {b n R : Nat} {w w' : World} {e : TypeId} {v : Value} {xs : List Value} (h : Rest b w.heap.size w w') (ho : w.ownsRow R e 1 v n xs) (hR : b < R) : w'.ownsRow R e 1 v n xs := by
  refine ⟨ho.1, ?_⟩
  rcases ho.2 with h2 | ⟨g, cap, cur, e1, hB, hh, r⟩
  · exact .inl h2
  · exact .inr ⟨g, cap, cur, e1, hB, (h.2 g (Array.getElem?_eq_some_iff.1 hh).1 (by omega)).trans hh, r⟩
end Go.Proofs.YtcbgngkalplafaaGreatDoor
