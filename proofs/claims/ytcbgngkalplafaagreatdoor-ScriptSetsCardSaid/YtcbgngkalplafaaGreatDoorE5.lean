/- The parts of known: Text. -/
import Derived.Test.YtcbgngkalplafaaGreatDoorE4
import Derived.Test.YtcbgngkalplafaaGreatDoorPure4
import Derived.Test.YtcbgngkalplafaaGreatDoorC8
import Derived.KernelRfl
namespace Go.Proofs.YtcbgngkalplafaaGreatDoor
open Go.RowKit Go.Shelf Lin

/-- The name of input 7's root, and the other two. -/
def b7 : ByteArray := ⟨#[55]⟩
def b71 : ByteArray := ⟨#[55, 46, 49]⟩
def b42 : ByteArray := ⟨#[52, 46, 50]⟩
theorem v7 : validB b7 = true := by decide
theorem v71 : validB b71 = true := by decide
theorem v42 : validB b42 = true := by decide
theorem o7 : ordl b7 = [7] := by decide
theorem o71 : ordl b71 = [7, 1] := by decide
theorem o42 : ordl b42 = [4, 2] := by decide
theorem r4 : rootN 4 = ⟨#[52]⟩ := by
  unfold rootN
  have : Lib.itoa 4 = [52] := by first | rfl | kernel_rfl | simp [Lib.itoa, Lib.decDigits]
  rw [this]
def nm7 : Nm := ⟨b7, v7, by decide⟩
theorem canI44 : canI [4, 4] = [4] :=
  IsSort.unique slo_int (canI_is _) (m := ([4, 4] : List Int).filter fun n => decide (1 ≤ n)) ⟨List.pairwise_singleton _ _, fun x => by simp⟩ fun _ => Iff.rfl
theorem roots4 : rootsL [4] = [⟨#[52]⟩] := by
  have : rootsL [4] = [rootN 4] := rfl
  rw [this, r4]
theorem canN44 : canN [4, 4] [b71, b42, b7] = [nm7] := by
  refine sorted_unique slo_nm _ _ (canN_pair _ _) (List.pairwise_singleton _ _) fun n => ?_
  rw [mem_canN, canI44, roots4]
  have hg7 : nm7 ∈ goodL [⟨#[52]⟩] [b71, b42, b7] := mem_goodL.2 ⟨by simp [nm7], by decide, fun r hr => by
    rw [List.mem_singleton.1 hr]; decide⟩
  constructor
  · rintro ⟨h1, h2⟩
    rw [mem_goodL] at h1
    rw [List.mem_singleton]
    rcases (by simpa using h1.1 : n.1 = b71 ∨ n.1 = b42 ∨ n.1 = b7) with h | h | h
    · have h3 := h2 nm7 hg7 (fun e => by rw [← e] at h; exact absurd h (by decide))
      rw [h] at h3
      exact absurd h3 (by decide)
    · have h3 := h1.2.2 _ (List.mem_singleton.2 rfl)
      rw [h] at h3
      exact absurd h3 (by decide)
    · exact Nm.ext h
  · intro h
    rw [List.mem_singleton] at h
    subst h
    refine ⟨hg7, fun o ho hne => ?_⟩
    rw [mem_goodL] at ho
    rcases (by simpa using ho.1 : o.1 = b71 ∨ o.1 = b42 ∨ o.1 = b7) with h | h | h
    · rw [h]; decide
    · rw [h]; decide
    · exact absurd (Nm.ext h) hne
theorem there44 : thereL ks [9, 4, 4] = [4, 4] := by simp [thereL, isIn, inIdx, wrap64, ks]
theorem canS44 : canS [4, 4] [b71, b42, b7] = [b7] := by unfold canS; rw [canN44]; rfl
theorem canI4 : canI [4] = [4] := by have := (can_idem [4, 4] [b71, b42, b7]).1; rwa [canI44] at this
theorem canN4 : canN [4] [b7] = [nm7] := by have := (can_idem [4, 4] [b71, b42, b7]).2; rwa [canI44, canS44, canN44] at this

set_option maxRecDepth 100000 in
set_option maxHeartbeats 8000000 in
theorem text_known (v : Value) (w : World) (hT : TabOk w) (hv : RdW w v [4] [b7]) :
    Calls Tryz.prog 28 #[v] w fun e w' => e = .returned (.string ⟨#[35, 52, 32, 55]⟩) ∧ Below w.heap.size w w' := by
  obtain ⟨u, x, rfl, hu, hx⟩ := hv
  have hu29 := Tryz.underlying29
  obtain ⟨i9, j1, j2, j3, j4⟩ := info_parts Tryz_info9
  have HU := Lib.hid hu
  have HX := Lib.hid hx
  have HT := Lib.hid hT
  obtain ⟨A, c, rfl, hlen⟩ := hu.slice
  obtain ⟨A', c', rfl, hlen'⟩ := hx.slice
  have HB := Lib.hid ((Below.refl w.heap.size w).alloc (Nat.le_refl _) (.cells #[.slice A 1 c, .slice A' 1 c'] 29))
  clear hu hx hT hlen hlen'
  go_enter Tryz.func28, Tryz.ntmps28
  go_wp2_with fail
  refine (canonical_any [4] [b7] (by decide) (by decide) (by intro x hx; rw [List.mem_singleton.1 hx]; decide) _ _ _ (HT.out.below HB.out) (HU.out.below HB.out) (HX.out.below HB.out)).mono ?_
  rintro e w1 ⟨v1, y1, rfl, h1, h2, hb1⟩
  rw [canI4] at h1
  rw [canN4] at h2
  have h1 : w1.ownsRow _ 3 1 v1 1 [.int .i64 4] := h1
  have h2 : w1.ownsRow _ 47 1 y1 1 [.string b7] := h2
  obtain ⟨A1, c1, rfl⟩ := own_slice' h1
  obtain ⟨A2, c2, rfl⟩ := own_slice' h2
  have hh := (hb1.block w.heap.size (by rw [sizeA]; omega)).trans (heapA w (.cells #[.slice A 1 c, .slice A' 1 c'] 29))
  have hk0 := cell_of_heap hh 0 _ rfl
  have hk1 := cell_of_heap hh 1 _ rfl
  have hz0 := frozen_of hh 0
  have hz1 := frozen_of hh 1
  have hbw := below_then HB.out HB.out.size hb1
  have hsz1 := hb1.size
  rw [sizeA] at hsz1
  have hh2 : ((w1.setCell ⟨w.heap.size, 0, none⟩ (.slice A1 1 c1)).setCell ⟨w.heap.size, 1, none⟩ (.slice A2 1 c2)).heap[w.heap.size]? = some (.cells #[.slice A1 1 c1, .slice A2 1 c2] 29 (0, 0)) := heap_set (heap_set hh 0 _) 1 _
  have hb2 : Below w.heap.size w ((w1.setCell ⟨w.heap.size, 0, none⟩ (.slice A1 1 c1)).setCell ⟨w.heap.size, 1, none⟩ (.slice A2 1 c2)) := (hbw.setCell (Nat.le_refl _) _).setCell (Nat.le_refl _) _
  have R1 := Lib.hid (Rd.of_own (e := 3) (l := ([4] : List Int)) (enc := Value.int .i64) (ownsRow_setCell_below (ownsRow_setCell_below h1 (a := ⟨w.heap.size, 0, none⟩) (by show w.heap.size < _; rw [sizeA]; omega) (.slice A1 1 c1)) (a := ⟨w.heap.size, 1, none⟩) (by show w.heap.size < _; rw [sizeA]; omega) (.slice A2 1 c2)))
  have R2 := Lib.hid (Rd.of_own (e := 47) (l := [b7]) (enc := Value.string) (ownsRow_setCell_below (ownsRow_setCell_below h2 (a := ⟨w.heap.size, 0, none⟩) (by show w.heap.size < _; rw [sizeA]; omega) (.slice A1 1 c1)) (a := ⟨w.heap.size, 1, none⟩) (by show w.heap.size < _; rw [sizeA]; omega) (.slice A2 1 c2)))
  have hs2 : w.heap.size + 1 ≤ ((w1.setCell ⟨w.heap.size, 0, none⟩ (.slice A1 1 c1)).setCell ⟨w.heap.size, 1, none⟩ (.slice A2 1 c2)).heap.size := by simpa [World.setCell] using hsz1
  clear h1 h2
  go_wp2_with fail
  clear hk0 hk1 hz0 hz1
  generalize ((w1.setCell ⟨w.heap.size, 0, none⟩ (.slice A1 1 c1)).setCell ⟨w.heap.size, 1, none⟩ (.slice A2 1 c2)) = w2 at hh2 hb2 hs2 R1 R2 ⊢
  obtain ⟨-, -, g1, o1, rfl, q1⟩ := R1.out.at (by decide)
  obtain ⟨-, -, g2, o2, rfl, -⟩ := R2.out.at (by decide)
  have q1 : w2.cell? ⟨g1, o1, none⟩ = some (.int .i64 4) := q1 0 (by decide)
  have HI := itoa_any 4 (by decide) (by decide) w2 (HT.out.below hb2)
  rw [r4] at HI
  have HII := Lib.hid HI
  clear HI
  refine wp_loop_rounds 2 ?_
  rw [rounds_succ]
  go_wp2_with fail
  refine HII.out.mono ?_
  rintro e w3 ⟨rfl, hb3⟩
  have hs3 := hb3.size
  have hbw3 := below_then hb2 hb2.size hb3
  go_wp2_with (at_builtin; refine wpList_append_own _ rfl _ _ 74 rfl (w.heap.size + 1) 9 i9 (.string ByteArray.empty) 1 16 Tryz.underlying74 j1 j2 j3 j4 rfl (by decide) (.slice none 0 0) 0 [] rfl (World.ownsRow_nil _ _ _ _) ⟨w3.heap.size, 0, none⟩ 1 1 [.string ⟨#[35, 52]⟩] rfl rfl (cell_one_new _ _ _) (by simp [Value.oneCell']) (by decide) (by decide) (by rw [sizeA]; omega) ?_; intro v4 w4 hown4 hgrow4 _)
  have hown4 : w4.ownsRow (w.heap.size + 1) 9 1 v4 1 [.string ⟨#[35, 52]⟩] := hown4
  obtain ⟨A4, c4, rfl⟩ := own_slice' hown4
  have HO4 := Lib.hid hown4
  have hb4 : Below w3.heap.size w3 w4 := ((Below.refl w3.heap.size w3).alloc (Nat.le_refl _) _).grown hgrow4 (by rw [sizeA]; omega) (fun k hk => by cases hk)
  have hs4 := hb4.size
  have hbw4 := below_then hbw3 hbw3.size hb4
  have hb34 := below_then hb3 hb3.size hb4
  have hh4 := (hb34.block w.heap.size (by omega)).trans hh2
  have m1 := cell_of_heap hh4 1 _ rfl
  obtain ⟨-, -, g3, o3, e3, q2⟩ := (R2.out.below hb34).at (by decide)
  cases e3
  have q2 : w4.cell? ⟨g2, o2, none⟩ = some (.string b7) := q2 0 (by decide)
  clear hown4 hgrow4 q1
  rw [rounds_succ]
  go_wp2_with fail
  refine wp_loop_rounds 2 ?_
  rw [rounds_succ]
  go_wp2_with (at_builtin; refine wpList_append_own _ rfl _ _ 74 rfl (w.heap.size + 1) 9 i9 (.string ByteArray.empty) 1 16 Tryz.underlying74 j1 j2 j3 j4 rfl (by decide) (.slice A4 1 c4) 1 [.string ⟨#[35, 52]⟩] rfl (HO4.out.alloc _) ⟨w4.heap.size, 0, none⟩ 1 1 [.string b7] rfl rfl (cell_one_new _ _ _) (by simp [Value.oneCell']) (by decide) (by decide) (by rw [sizeA]; omega) ?_; intro v5 w5 hown5 hgrow5 _)
  have hown5 : w5.ownsRow (w.heap.size + 1) 9 1 v5 2 [.string ⟨#[35, 52]⟩, .string b7] := hown5
  have hb5 := below_append HO4.out (by omega) hgrow5
  have hbw5 := hbw4.trans (below_of hb5 (by omega))
  rcases own_cut hown5 with ⟨_, h⟩ | ⟨g5, c5, rfl, -, hc5, -, hg5⟩
  · cases h
  have HJ := Lib.hid (Tryz.strings_Join g5 0 c5 [⟨#[35, 52]⟩, b7] ⟨#[32]⟩ w5 (fun j x hj => by
    have := hown5.cells rfl j (.string x) (by
      match j with
      | 0 => cases hj; rfl
      | 1 => cases hj; rfl)
    rw [add_at] at this
    exact this) hg5 (by decide) hc5 (by decide))
  clear hown5 hgrow5 q2 m1
  rw [rounds_succ]
  go_wp2_with fail
  refine HJ.out.mono ?_
  rintro e w6 ⟨rfl, hb6⟩
  go_wp2_with fail
  go_ret
  exact ⟨rfl, below_then hbw5 hbw5.size hb6⟩
end Go.Proofs.YtcbgngkalplafaaGreatDoor
