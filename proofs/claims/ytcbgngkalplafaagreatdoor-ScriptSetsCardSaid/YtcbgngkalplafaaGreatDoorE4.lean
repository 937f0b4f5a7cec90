/- The parts of known: Cut. -/
import Derived.Test.YtcbgngkalplafaaGreatDoorE3
namespace Go.Proofs.YtcbgngkalplafaaGreatDoor
open Go.RowKit Go.Shelf Lin

/-- The three boxes of Cut: the script, and the two results whatever they hold. -/
def FC (w : World) (cs : Array Value) (W : World) : Prop :=
  Below w.heap.size w W ∧ w.heap.size + 3 ≤ W.heap.size ∧ W.heap[w.heap.size]? = some (.cells cs 25 (0, 0)) ∧ (∃ a b c d e, W.heap[w.heap.size + 1]? = some (.cells #[a, b, c, d, e] 25 (0, 0))) ∧ (∃ a b c d e, W.heap[w.heap.size + 2]? = some (.cells #[a, b, c, d, e] 25 (0, 0)))
section
variable {w W W' : World} {cs : Array Value}
theorem FC.below (h : FC w cs W) (hb : Below W.heap.size W W') : FC w cs W' := by
  obtain ⟨h1, h2, h3, ⟨a, b, c, d, e, h4⟩, a', b', c', d', e', h5⟩ := h
  exact ⟨below_then h1 (by omega) hb, Nat.le_trans h2 hb.size, (hb.block _ (by omega)).trans h3, ⟨a, b, c, d, e, (hb.block _ (by omega)).trans h4⟩, a', b', c', d', e', (hb.block _ (by omega)).trans h5⟩
theorem five {a b c d e : Value} (j : Nat) (v : Value) : ∃ a' b' c' d' e', (#[a, b, c, d, e] : Array Value).setIfInBounds j v = #[a', b', c', d', e'] := by
  match j with
  | 0 => exact ⟨v, b, c, d, e, rfl⟩
  | 1 => exact ⟨a, v, c, d, e, rfl⟩
  | 2 => exact ⟨a, b, v, d, e, rfl⟩
  | 3 => exact ⟨a, b, c, v, e, rfl⟩
  | 4 => exact ⟨a, b, c, d, v, rfl⟩
  | j + 5 => exact ⟨a, b, c, d, e, rfl⟩
theorem FC.set1 (h : FC w cs W) (j : Nat) (v : Value) : FC w cs (W.setCell ⟨w.heap.size + 1, j, none⟩ v) := by
  obtain ⟨h1, h2, h3, ⟨a, b, c, d, e, h4⟩, a', b', c', d', e', h5⟩ := h
  refine ⟨h1.setCell (by show w.heap.size ≤ w.heap.size + 1; omega) _, by simpa [World.setCell] using h2, (Below.heap_setCell _ _ _ _ (by show w.heap.size ≠ w.heap.size + 1; omega)).trans h3, ?_, a', b', c', d', e', (Below.heap_setCell _ _ _ _ (by show w.heap.size + 2 ≠ w.heap.size + 1; omega)).trans h5⟩
  obtain ⟨p, q, r, s, t, hp⟩ := five (a := a) (b := b) (c := c) (d := d) (e := e) j v
  exact ⟨p, q, r, s, t, (heap_set h4 j v).trans (by rw [hp])⟩
theorem FC.set2 (h : FC w cs W) (j : Nat) (v : Value) : FC w cs (W.setCell ⟨w.heap.size + 1 + 1, j, none⟩ v) := by
  obtain ⟨h1, h2, h3, ⟨a, b, c, d, e, h4⟩, a', b', c', d', e', h5⟩ := h
  refine ⟨h1.setCell (by show w.heap.size ≤ w.heap.size + 1 + 1; omega) _, by simpa [World.setCell] using h2, (Below.heap_setCell _ _ _ _ (by show w.heap.size ≠ w.heap.size + 1 + 1; omega)).trans h3, ⟨a, b, c, d, e, (Below.heap_setCell _ _ _ _ (by show w.heap.size + 1 ≠ w.heap.size + 1 + 1; omega)).trans h4⟩, ?_⟩
  obtain ⟨p, q, r, s, t, hp⟩ := five (a := a') (b := b') (c := c') (d := d') (e := e') j v
  exact ⟨p, q, r, s, t, (heap_set h5 j v).trans (by rw [hp])⟩
end
theorem FC_cells {w W : World} {a b c d e : Value} (h : FC w #[a, b, c, d, e] W) : W.cell? ⟨w.heap.size, 0, none⟩ = some a ∧ W.cell? ⟨w.heap.size, 1, none⟩ = some b ∧ W.cell? ⟨w.heap.size, 2, none⟩ = some c ∧ W.cell? ⟨w.heap.size, 3, none⟩ = some d ∧ W.cell? ⟨w.heap.size, 4, none⟩ = some e ∧ FC w #[a, b, c, d, e] W :=
  ⟨cell_of_heap h.2.2.1 0 _ rfl, cell_of_heap h.2.2.1 1 _ rfl, cell_of_heap h.2.2.1 2 _ rfl, cell_of_heap h.2.2.1 3 _ rfl, cell_of_heap h.2.2.1 4 _ rfl, h⟩
theorem FC_of {w W : World} {a b c d e : Value} (h : W.cell? ⟨w.heap.size, 0, none⟩ = some a ∧ W.cell? ⟨w.heap.size, 1, none⟩ = some b ∧ W.cell? ⟨w.heap.size, 2, none⟩ = some c ∧ W.cell? ⟨w.heap.size, 3, none⟩ = some d ∧ W.cell? ⟨w.heap.size, 4, none⟩ = some e ∧ FC w #[a, b, c, d, e] W) : FC w #[a, b, c, d, e] W := h.2.2.2.2.2

theorem resultsCCT {P : Program} {fn : Func} {p q u : Tmp} {ty : TypeId} (h : fn.results = #[.cell p ty, .cell q ty, .tmp u]) (tmps : Array Value) (w : World) (g g' : Nat) (t t' : TypeId) (cs cs' : Array Value) (fr fr' : Nat × Nat) (d : TypeDesc)
    (hp : tmps.getD p undef = .pointer (some ⟨g, 0, none⟩)) (hq : tmps.getD q undef = .pointer (some ⟨g', 0, none⟩)) (hg : w.heap[g]? = some (.cells cs t fr)) (hg' : w.heap[g']? = some (.cells cs' t' fr'))
    (hu : P.underlying ty = some d) (hd : (match d with | .struct _ | .array _ _ => true | _ => false) = true) (hi : (P.info? ty).map (·.size) = some cs.size) (hi' : (P.info? ty).map (·.size) = some cs'.size) :
    (results fn tmps).run P w = .ok (.tuple #[.agg cs, .agg cs', tmps.getD u undef]) w := by
  have hp' : tmps[p]?.getD undef = .pointer (some ⟨g, 0, none⟩) := by simpa using hp
  have hq' : tmps[q]?.getD undef = .pointer (some ⟨g', 0, none⟩) := by simpa using hq
  simp [results, h, hp', hq', asAddr, run_loadVar_row w g t ty cs fr d hg hu hd hi, run_loadVar_row w g' t' ty cs' fr' d hg' hu hd hi']

set_option maxRecDepth 100000 in
set_option maxHeartbeats 8000000 in
theorem cut_known (b off c : Nat) (w : World) (hc : 3 ≤ c) (hc2 : c ≤ 9223372036854775807) (hA : KIn w b off) :
    Calls Tryz.prog 26 #[.agg #[.int .i64 5, .int .i64 7, .int .i64 3, .slice (some ⟨b, off, none⟩) 3 c, .slice none 0 0], .int .i64 6] w fun e w' => ∃ A n d A' n' d', e = .returned (.tuple #[.agg #[.int .i64 5, .int .i64 6, .int .i64 3, .slice A n d, .slice none 0 0], .agg #[.int .i64 6, .int .i64 7, .int .i64 5, .slice A' n' d', .slice none 0 0], .int .i64 0]) ∧ Below w.heap.size w w' := by
  have hu25 := Tryz.underlying25
  have HA := Lib.hid hA
  clear hA
  have HF := Lib.hid (FP.start w #[.int .i64 5, .int .i64 7, .int .i64 3, .slice (some ⟨b, off, none⟩) 3 c, .slice none 0 0] 0 0 0 (.slice none 0 0))
  have HB := Lib.hid ((((Below.refl w.heap.size w).alloc (Nat.le_refl _) (.cells #[.int .i64 5, .int .i64 7, .int .i64 3, .slice (some ⟨b, off, none⟩) 3 c, .slice none 0 0] 25)).alloc (by rw [sizeA]; omega) (.cells #[.int .i64 0, .int .i64 0, .int .i64 0, .slice none 0 0, .slice none 0 0] 25)).alloc (by rw [sizeA, sizeA]; omega) (.cells #[.int .i64 0, .int .i64 0, .int .i64 0, .slice none 0 0, .slice none 0 0] 25))
  have hW0 : (((w.alloc (.cells #[.int .i64 5, .int .i64 7, .int .i64 3, .slice (some ⟨b, off, none⟩) 3 c, .slice none 0 0] 25)).alloc (.cells #[.int .i64 0, .int .i64 0, .int .i64 0, .slice none 0 0, .slice none 0 0] 25)).alloc (.cells #[.int .i64 0, .int .i64 0, .int .i64 0, .slice none 0 0, .slice none 0 0] 25)).heap.size = w.heap.size + 3 := by rw [sizeA, sizeA, sizeA]
  go_enter Tryz.func26, Tryz.ntmps26
  go_wp2_with fail
  generalize (((w.alloc (.cells #[.int .i64 5, .int .i64 7, .int .i64 3, .slice (some ⟨b, off, none⟩) 3 c, .slice none 0 0] 25)).alloc (.cells #[.int .i64 0, .int .i64 0, .int .i64 0, .slice none 0 0, .slice none 0 0] 25)).alloc (.cells #[.int .i64 0, .int .i64 0, .int .i64 0, .slice none 0 0, .slice none 0 0] 25)) = W0 at HF HB hW0 ⊢
  have H0 := Lib.hid (show FC w #[.int .i64 5, .int .i64 7, .int .i64 3, .slice (some ⟨b, off, none⟩) 3 c, .slice none 0 0] W0 from ⟨HB.out, by omega, HF.out.1, ⟨_, _, _, _, _, HF.out.2.1⟩, _, _, _, _, _, HF.out.2.2⟩)
  refine (scriptCheck_known b off c W0 hc hc2 (HA.out.below HB.out)).mono ?_
  rintro e w1 ⟨rfl, hb1⟩
  have H1 := Lib.hid (H0.out.below hb1)
  have r0 := cell_of_heap H1.out.2.2.1 0 _ rfl
  have r1 := cell_of_heap H1.out.2.2.1 1 _ rfl
  go_wp2_with fail
  clear r0 r1
  have HA1 := Lib.hid (HA.out.below H1.out.1)
  clear HF HB hW0 H0 hb1
  go_region_held3 (fun W => W.cell? ⟨w.heap.size, 0, none⟩ = some (.int .i64 5) ∧ W.cell? ⟨w.heap.size, 1, none⟩ = some (.int .i64 7) ∧ W.cell? ⟨w.heap.size, 2, none⟩ = some (.int .i64 3) ∧ W.cell? ⟨w.heap.size, 3, none⟩ = some (.slice (some ⟨b, off, none⟩) 3 c) ∧ W.cell? ⟨w.heap.size, 4, none⟩ = some (.slice none 0 0) ∧ FC w #[.int .i64 5, .int .i64 7, .int .i64 3, .slice (some ⟨b, off, none⟩) 3 c, .slice none 0 0] W)
    (first
      | with_reducible exact FC_cells ((((((((((h3.set1 0 _).set1 1 _).set1 2 _).set1 3 _).set1 4 _).set2 0 _).set2 1 _).set2 2 _).set2 3 _).set2 4 _)
      | with_reducible exact FC_cells (((((h3.set1 0 _).set1 1 _).set1 2 _).set1 3 _).set1 4 _)
      | with_reducible exact FC_cells h2
      | with_reducible exact FC_cells h3
      | with_reducible exact FC_cells (H1.out.below (bdrew1 (Below.refl _ _))))
    (first
      | (go_at_call 52; have hq := h2.1; refine Calls.mono (part67_known b off c _ hc hc2 (HA.out.below hq)) ?_; intro e w3 h; obtain ⟨A3, n3, d3, rfl, hb3⟩ := h; have h3 := h2.below hb3; obtain ⟨-, -, -, ⟨e0, e1, e2, e3, e4, hr1⟩, f0, f1, f2, f3, f4, hr2⟩ := id h3; have a0 := cell_of_heap hr1 0 _ rfl; have a1 := cell_of_heap hr1 1 _ rfl; have a2 := cell_of_heap hr1 2 _ rfl; have a3 := cell_of_heap hr1 3 _ rfl; have a4 := cell_of_heap hr1 4 _ rfl; have b0 := cell_of_heap hr2 0 _ rfl; have b1 := cell_of_heap hr2 1 _ rfl; have b2 := cell_of_heap hr2 2 _ rfl; have b3 := cell_of_heap hr2 3 _ rfl; have b4 := cell_of_heap hr2 4 _ rfl; have y0 := frozen_of hr1 0; have y1 := frozen_of hr1 1; have y2 := frozen_of hr1 2; have y3 := frozen_of hr1 3; have y4 := frozen_of hr1 4; have z0 := frozen_of hr2 0; have z1 := frozen_of hr2 1; have z2 := frozen_of hr2 2; have z3 := frozen_of hr2 3; have z4 := frozen_of hr2 4)
      | (go_at_call 52; refine Calls.mono (part56_known b off c _ hc hc2 HA1.out) ?_; intro e w2 h; obtain ⟨A2, n2, d2, rfl, hb2⟩ := h; have h2 := (H1.out.below (bdrew1 (Below.refl _ _))).below (W' := w2) hb2))
  all_goals
    go_wp2_with fail
    refine bodyPost_ret (resultsCCT rfl _ _ (w.heap.size + 1) (w.heap.size + 1 + 1) 25 25 #[.int .i64 5, .int .i64 6, .int .i64 3, .slice A2 n2 d2, .slice none 0 0] #[.int .i64 6, .int .i64 7, .int .i64 5, .slice A3 n3 d3, .slice none 0 0] (0, 0) (0, 0) _ rfl rfl ?_ ?_ hu25 rfl Tryz_size25 Tryz_size25) rfl ?_
    · refine (Below.heap_setCell _ _ _ _ (by show w.heap.size + 1 ≠ w.heap.size + 1 + 1; omega)).trans ?_
      refine (Below.heap_setCell _ _ _ _ (by show w.heap.size + 1 ≠ w.heap.size + 1 + 1; omega)).trans ?_
      refine (Below.heap_setCell _ _ _ _ (by show w.heap.size + 1 ≠ w.heap.size + 1 + 1; omega)).trans ?_
      refine (Below.heap_setCell _ _ _ _ (by show w.heap.size + 1 ≠ w.heap.size + 1 + 1; omega)).trans ?_
      refine (Below.heap_setCell _ _ _ _ (by show w.heap.size + 1 ≠ w.heap.size + 1 + 1; omega)).trans ?_
      exact heap_set (heap_set (heap_set (heap_set (heap_set hr1 0 _) 1 _) 2 _) 3 _) 4 _
    · have hr3 : (((((w3.setCell ⟨w.heap.size + 1, 0, none⟩ (.int .i64 5)).setCell ⟨w.heap.size + 1, 1, none⟩ (.int .i64 6)).setCell ⟨w.heap.size + 1, 2, none⟩ (.int .i64 3)).setCell ⟨w.heap.size + 1, 3, none⟩ (.slice A2 n2 d2)).setCell ⟨w.heap.size + 1, 4, none⟩ (.slice none 0 0)).heap[w.heap.size + 1 + 1]? = some (.cells #[f0, f1, f2, f3, f4] 25 (0, 0)) := by
        refine (Below.heap_setCell _ _ _ _ (by show w.heap.size + 1 + 1 ≠ w.heap.size + 1; omega)).trans ?_
        refine (Below.heap_setCell _ _ _ _ (by show w.heap.size + 1 + 1 ≠ w.heap.size + 1; omega)).trans ?_
        refine (Below.heap_setCell _ _ _ _ (by show w.heap.size + 1 + 1 ≠ w.heap.size + 1; omega)).trans ?_
        refine (Below.heap_setCell _ _ _ _ (by show w.heap.size + 1 + 1 ≠ w.heap.size + 1; omega)).trans ?_
        refine (Below.heap_setCell _ _ _ _ (by show w.heap.size + 1 + 1 ≠ w.heap.size + 1; omega)).trans ?_
        exact hr2
      exact heap_set (heap_set (heap_set (heap_set (heap_set hr3 0 _) 1 _) 2 _) 3 _) 4 _
    · refine ⟨_, _, _, _, _, _, rfl, ?_⟩
      have hbl := h3.1
      have g1 : w.heap.size ≤ w.heap.size + 1 := by omega
      have g2 : w.heap.size ≤ w.heap.size + 1 + 1 := by omega
      with_reducible exact ((((((((((hbl.setCell (p := ⟨w.heap.size + 1, 0, none⟩) g1 _).setCell (p := ⟨w.heap.size + 1, 1, none⟩) g1 _).setCell (p := ⟨w.heap.size + 1, 2, none⟩) g1 _).setCell (p := ⟨w.heap.size + 1, 3, none⟩) g1 _).setCell (p := ⟨w.heap.size + 1, 4, none⟩) g1 _).setCell (p := ⟨w.heap.size + 1 + 1, 0, none⟩) g2 _).setCell (p := ⟨w.heap.size + 1 + 1, 1, none⟩) g2 _).setCell (p := ⟨w.heap.size + 1 + 1, 2, none⟩) g2 _).setCell (p := ⟨w.heap.size + 1 + 1, 3, none⟩) g2 _).setCell (p := ⟨w.heap.size + 1 + 1, 4, none⟩) g2 _)
end Go.Proofs.YtcbgngkalplafaaGreatDoor
