/- known answers true. -/
import Derived.Test.YtcbgngkalplafaaGreatDoorE5
namespace Go.Proofs.YtcbgngkalplafaaGreatDoor
open Go.RowKit Go.Shelf Lin

theorem kin_of {W : World} {b : Nat} (h : W.heap[b]? = some (.cells #[.int .i64 5, .int .i64 4, .int .i64 1, .string ⟨#[]⟩, .string ⟨#[]⟩, .string ⟨#[]⟩, .int .i64 5, .int .i64 4, .int .i64 1, .string ⟨#[]⟩, .string ⟨#[]⟩, .string ⟨#[]⟩, .int .i64 6, .int .i64 4, .int .i64 1, .string ⟨#[]⟩, .string ⟨#[]⟩, .string ⟨#[]⟩] 38 (0, 0))) : KIn W b 0 := by
  intro k hk
  match k, hk with
  | 0, _ => exact ⟨cell_of_heap h 0 _ rfl, cell_of_heap h 1 _ rfl, cell_of_heap h 2 _ rfl, cell_of_heap h 3 _ rfl, cell_of_heap h 4 _ rfl, cell_of_heap h 5 _ rfl⟩
  | 1, _ => exact ⟨cell_of_heap h 6 _ rfl, cell_of_heap h 7 _ rfl, cell_of_heap h 8 _ rfl, cell_of_heap h 9 _ rfl, cell_of_heap h 10 _ rfl, cell_of_heap h 11 _ rfl⟩
  | 2, _ => exact ⟨cell_of_heap h 12 _ rfl, cell_of_heap h 13 _ rfl, cell_of_heap h 14 _ rfl, cell_of_heap h 15 _ rfl, cell_of_heap h 16 _ rfl, cell_of_heap h 17 _ rfl⟩
theorem scr_of {W : World} {b : Nat} (h : KIn W b 0) : RdScr W (.agg #[.int .i64 5, .int .i64 7, .int .i64 3, .slice (some ⟨b, 0, none⟩) 3 3, .slice none 0 0]) ks := by
  refine ⟨_, _, rfl, .inr ⟨by simp [ks], b, 0, 3, rfl, by decide, by decide, fun j hj => ?_⟩, .inl ⟨rfl, none, 0, rfl, .inl rfl⟩⟩
  match j, hj with
  | 0, _ => exact h 0 (by decide)
  | 1, _ => exact h 1 (by decide)
  | 2, _ => exact h 2 (by decide)

theorem rd_arr {α : Type} {enc : α → Value} {W : World} {b n : Nat} {e : TypeId} {fr : Nat × Nat} (l : List α) (h : W.heap[b]? = some (.cells (l.map enc).toArray e fr)) (hn : l.length = n) (h0 : l ≠ []) (hl : n ≤ 1000) : Rd enc W (.slice (some ⟨b, 0, none⟩) n n) l := by
  subst hn
  refine .inr ⟨h0, b, 0, _, rfl, Nat.le_refl _, by omega, fun j hj => ?_⟩
  rw [Nat.zero_add]
  refine cell_of_heap h j _ ?_
  simp [hj]
set_option maxRecDepth 100000 in
set_option maxHeartbeats 8000000 in
theorem known_any (w : World) (hT : TabOk w) : Calls Tryz.prog 5 #[] w fun e w' => e = .returned (.bool true) ∧ Below w.heap.size w w' := by
  have hu29 := Tryz.underlying29
  have hu25 := Tryz.underlying25
  have HT := Lib.hid hT
  have HK := Lib.hid (kin_of (b := w.heap.size + 1) (W := (((w.alloc (.cells #[.int .i64 4, .int .i64 1, .string ⟨#[]⟩, .string ⟨#[]⟩, .string ⟨#[]⟩] 36)).alloc (.cells #[.int .i64 5, .int .i64 4, .int .i64 1, .string ⟨#[]⟩, .string ⟨#[]⟩, .string ⟨#[]⟩, .int .i64 5, .int .i64 4, .int .i64 1, .string ⟨#[]⟩, .string ⟨#[]⟩, .string ⟨#[]⟩, .int .i64 6, .int .i64 4, .int .i64 1, .string ⟨#[]⟩, .string ⟨#[]⟩, .string ⟨#[]⟩] 38)).alloc (.cells #[.int .i64 5, .int .i64 7, .int .i64 3, .slice (some ⟨w.heap.size + 1, 0, none⟩) 3 3, .slice none 0 0] 25))) (by rw [Below.heap_alloc _ _ _ (by rw [sizeA, sizeA]; omega)]; exact heapA2 _ _ _))
  have HSB := Lib.hid (show (((w.alloc (.cells #[.int .i64 4, .int .i64 1, .string ⟨#[]⟩, .string ⟨#[]⟩, .string ⟨#[]⟩] 36)).alloc (.cells #[.int .i64 5, .int .i64 4, .int .i64 1, .string ⟨#[]⟩, .string ⟨#[]⟩, .string ⟨#[]⟩, .int .i64 5, .int .i64 4, .int .i64 1, .string ⟨#[]⟩, .string ⟨#[]⟩, .string ⟨#[]⟩, .int .i64 6, .int .i64 4, .int .i64 1, .string ⟨#[]⟩, .string ⟨#[]⟩, .string ⟨#[]⟩] 38)).alloc (.cells #[.int .i64 5, .int .i64 7, .int .i64 3, .slice (some ⟨w.heap.size + 1, 0, none⟩) 3 3, .slice none 0 0] 25)).heap[w.heap.size + 2]? = some (.cells #[.int .i64 5, .int .i64 7, .int .i64 3, .slice (some ⟨w.heap.size + 1, 0, none⟩) 3 3, .slice none 0 0] 25 (0, 0)) by
    have := heapA ((w.alloc (.cells #[.int .i64 4, .int .i64 1, .string ⟨#[]⟩, .string ⟨#[]⟩, .string ⟨#[]⟩] 36)).alloc (.cells #[.int .i64 5, .int .i64 4, .int .i64 1, .string ⟨#[]⟩, .string ⟨#[]⟩, .string ⟨#[]⟩, .int .i64 5, .int .i64 4, .int .i64 1, .string ⟨#[]⟩, .string ⟨#[]⟩, .string ⟨#[]⟩, .int .i64 6, .int .i64 4, .int .i64 1, .string ⟨#[]⟩, .string ⟨#[]⟩, .string ⟨#[]⟩] 38)) (.cells #[.int .i64 5, .int .i64 7, .int .i64 3, .slice (some ⟨w.heap.size + 1, 0, none⟩) 3 3, .slice none 0 0] 25)
    rwa [sizeA, sizeA] at this)
  have HB := Lib.hid ((((Below.refl w.heap.size w).alloc (Nat.le_refl _) (.cells #[.int .i64 4, .int .i64 1, .string ⟨#[]⟩, .string ⟨#[]⟩, .string ⟨#[]⟩] 36)).alloc (by rw [sizeA]; omega) (.cells #[.int .i64 5, .int .i64 4, .int .i64 1, .string ⟨#[]⟩, .string ⟨#[]⟩, .string ⟨#[]⟩, .int .i64 5, .int .i64 4, .int .i64 1, .string ⟨#[]⟩, .string ⟨#[]⟩, .string ⟨#[]⟩, .int .i64 6, .int .i64 4, .int .i64 1, .string ⟨#[]⟩, .string ⟨#[]⟩, .string ⟨#[]⟩] 38)).alloc (by rw [sizeA, sizeA]; omega) (.cells #[.int .i64 5, .int .i64 7, .int .i64 3, .slice (some ⟨w.heap.size + 1, 0, none⟩) 3 3, .slice none 0 0] 25))
  have hW0 : (((w.alloc (.cells #[.int .i64 4, .int .i64 1, .string ⟨#[]⟩, .string ⟨#[]⟩, .string ⟨#[]⟩] 36)).alloc (.cells #[.int .i64 5, .int .i64 4, .int .i64 1, .string ⟨#[]⟩, .string ⟨#[]⟩, .string ⟨#[]⟩, .int .i64 5, .int .i64 4, .int .i64 1, .string ⟨#[]⟩, .string ⟨#[]⟩, .string ⟨#[]⟩, .int .i64 6, .int .i64 4, .int .i64 1, .string ⟨#[]⟩, .string ⟨#[]⟩, .string ⟨#[]⟩] 38)).alloc (.cells #[.int .i64 5, .int .i64 7, .int .i64 3, .slice (some ⟨w.heap.size + 1, 0, none⟩) 3 3, .slice none 0 0] 25)).heap.size = w.heap.size + 3 := by rw [sizeA, sizeA, sizeA]
  clear hT
  go_enter Tryz.func5, Tryz.ntmps5
  go_wp2_with fail
  generalize (((w.alloc (.cells #[.int .i64 4, .int .i64 1, .string ⟨#[]⟩, .string ⟨#[]⟩, .string ⟨#[]⟩] 36)).alloc (.cells #[.int .i64 5, .int .i64 4, .int .i64 1, .string ⟨#[]⟩, .string ⟨#[]⟩, .string ⟨#[]⟩, .int .i64 5, .int .i64 4, .int .i64 1, .string ⟨#[]⟩, .string ⟨#[]⟩, .string ⟨#[]⟩, .int .i64 6, .int .i64 4, .int .i64 1, .string ⟨#[]⟩, .string ⟨#[]⟩, .string ⟨#[]⟩] 38)).alloc (.cells #[.int .i64 5, .int .i64 7, .int .i64 3, .slice (some ⟨w.heap.size + 1, 0, none⟩) 3 3, .slice none 0 0] 25)) = W0 at HK HSB HB hW0 ⊢
  refine (at_known (w.heap.size + 1) 0 3 W0 (by decide) (by decide) HK.out).mono ?_
  rintro e w1 ⟨v1, v2, v3, rfl, hr, hb1⟩
  have hh1 := (hb1.block (w.heap.size + 2) (by omega)).trans HSB.out
  have k0 := cell_of_heap hh1 0 _ rfl
  have k1 := cell_of_heap hh1 1 _ rfl
  have k2 := cell_of_heap hh1 2 _ rfl
  have k3 := cell_of_heap hh1 3 _ rfl
  have k4 := cell_of_heap hh1 4 _ rfl
  have HR := Lib.hid hr
  have HCT := Lib.hid (cut_known (w.heap.size + 1) 0 3 w1 (by decide) (by decide) (HK.out.below hb1))
  clear hr
  go_wp2_with fail
  refine HCT.out.mono ?_
  rintro e w2 ⟨A1, n1, d1, A2, n2, d2, rfl, hb2⟩
  have hb02 := below_then hb1 hb1.size hb2
  have hsz2 := hb02.size
  have hba := ((Below.refl w2.heap.size w2).alloc (Nat.le_refl _) (.cells #[.int .i64 5, .int .i64 6, .int .i64 3, .slice A1 n1 d1, .slice none 0 0] 25)).alloc (by rw [sizeA]; omega) (.cells #[.int .i64 6, .int .i64 7, .int .i64 5, .slice A2 n2 d2, .slice none 0 0] 25)
  have hb0a := below_then hb02 hb02.size hba
  have hh2 := (hb0a.block (w.heap.size + 2) (by omega)).trans HSB.out
  have HA1 := heapA2 w2 (.cells #[.int .i64 5, .int .i64 6, .int .i64 3, .slice A1 n1 d1, .slice none 0 0] 25) (.cells #[.int .i64 6, .int .i64 7, .int .i64 5, .slice A2 n2 d2, .slice none 0 0] 25)
  have HA0 : ((w2.alloc (.cells #[.int .i64 5, .int .i64 6, .int .i64 3, .slice A1 n1 d1, .slice none 0 0] 25)).alloc (.cells #[.int .i64 6, .int .i64 7, .int .i64 5, .slice A2 n2 d2, .slice none 0 0] 25)).heap[w2.heap.size]? = some (.cells #[.int .i64 5, .int .i64 6, .int .i64 3, .slice A1 n1 d1, .slice none 0 0] 25 (0, 0)) := by
    rw [Below.heap_alloc _ _ _ (by rw [sizeA]; omega)]; exact heapA _ _
  have HSA : ((w2.alloc (.cells #[.int .i64 5, .int .i64 6, .int .i64 3, .slice A1 n1 d1, .slice none 0 0] 25)).alloc (.cells #[.int .i64 6, .int .i64 7, .int .i64 5, .slice A2 n2 d2, .slice none 0 0] 25)).heap.size = w2.heap.size + 2 := by rw [sizeA, sizeA]
  clear k0 k1 k2 k3 k4 hh1
  have k0 := cell_of_heap hh2 0 _ rfl
  have k1 := cell_of_heap hh2 1 _ rfl
  have k2 := cell_of_heap hh2 2 _ rfl
  have k3 := cell_of_heap hh2 3 _ rfl
  have k4 := cell_of_heap hh2 4 _ rfl
  have HAA := Lib.hid (And.intro HA0 (And.intro HA1 (And.intro hb0a hba)))
  clear HA0 HA1 hb0a hba hh2
  go_wp2_with fail
  generalize ((w2.alloc (.cells #[.int .i64 5, .int .i64 6, .int .i64 3, .slice A1 n1 d1, .slice none 0 0] 25)).alloc (.cells #[.int .i64 6, .int .i64 7, .int .i64 5, .slice A2 n2 d2, .slice none 0 0] 25)) = wa at HAA HSA k0 k1 k2 k3 k4 ⊢
  clear k0 k1 k2 k3 k4
  have hbb := ((Below.refl wa.heap.size wa).alloc (Nat.le_refl _) (.cells #[.int .i64 9, .int .i64 4, .int .i64 4] 3)).alloc (by rw [sizeA]; omega) (.cells #[.string ⟨#[55, 46, 49]⟩, .string ⟨#[52, 46, 50]⟩, .string ⟨#[55]⟩] 47)
  have hI : ((wa.alloc (.cells #[.int .i64 9, .int .i64 4, .int .i64 4] 3)).alloc (.cells #[.string ⟨#[55, 46, 49]⟩, .string ⟨#[52, 46, 50]⟩, .string ⟨#[55]⟩] 47)).heap[w2.heap.size + 2]? = some (.cells #[.int .i64 9, .int .i64 4, .int .i64 4] 3 (0, 0)) := by
    rw [← HSA, Below.heap_alloc _ _ _ (by rw [sizeA]; omega)]; exact heapA _ _
  have hN : ((wa.alloc (.cells #[.int .i64 9, .int .i64 4, .int .i64 4] 3)).alloc (.cells #[.string ⟨#[55, 46, 49]⟩, .string ⟨#[52, 46, 50]⟩, .string ⟨#[55]⟩] 47)).heap[w2.heap.size + 2 + 1]? = some (.cells #[.string ⟨#[55, 46, 49]⟩, .string ⟨#[52, 46, 50]⟩, .string ⟨#[55]⟩] 47 (0, 0)) := by
    rw [← HSA]; exact heapA2 _ _ _
  have hbwb := HB.out.trans (below_of (below_then HAA.out.2.2.1 (by have := HAA.out.2.2.1.size; omega) hbb) (by omega))
  have HTK := Lib.hid (take_any ks [9, 4, 4] [b71, b42, b7] (by decide) (by decide) (by intro x hx; rcases (by simpa using hx : x = b71 ∨ x = b42 ∨ x = b7) with rfl | rfl | rfl <;> decide) _ _ _ _ (HT.out.below hbwb) (scr_of (HK.out.below (below_then HAA.out.2.2.1 HAA.out.2.2.1.size hbb))) (rd_arr (enc := Value.int .i64) [9, 4, 4] hI rfl (by decide) (by decide)) (rd_arr (enc := Value.string) [b71, b42, b7] hN rfl (by decide) (by decide)))
  have hsza := HAA.out.2.2.1.size
  clear hI hN
  refine HTK.out.mono ?_
  rintro e w3 ⟨v4, y4, rfl, ho1, ho2, hb3⟩
  rw [there44] at ho1 ho2
  rw [canI44] at ho1
  rw [canN44] at ho2
  have ho1 : w3.ownsRow _ 3 1 v4 1 [.int .i64 4] := ho1
  have ho2 : w3.ownsRow _ 47 1 y4 1 [.string b7] := ho2
  obtain ⟨A4, c4, rfl⟩ := own_slice' ho1
  obtain ⟨A5, c5, rfl⟩ := own_slice' ho2
  have hsz3 := hb3.size
  have hsb := hbb.size
  have hab3 : Below wa.heap.size wa w3 := below_then hbb hbb.size hb3
  have hbc := (Below.refl w3.heap.size w3).alloc (Nat.le_refl _) (.cells #[.slice A4 1 c4, .slice A5 1 c5] 29)
  have hac : Below wa.heap.size wa (w3.alloc (.cells #[.slice A4 1 c4, .slice A5 1 c5] 29)) := below_then hab3 hab3.size hbc
  have HF := Lib.hid (show ∀ W, Below (w3.heap.size + 1) (w3.alloc (.cells #[.slice A4 1 c4, .slice A5 1 c5] 29)) W → W.heap[w.heap.size + 2]? = some (.cells #[.int .i64 5, .int .i64 7, .int .i64 3, .slice (some ⟨w.heap.size + 1, 0, none⟩) 3 3, .slice none 0 0] 25 (0, 0)) ∧ W.heap[w2.heap.size]? = some (.cells #[.int .i64 5, .int .i64 6, .int .i64 3, .slice A1 n1 d1, .slice none 0 0] 25 (0, 0)) ∧ W.heap[w2.heap.size + 1]? = some (.cells #[.int .i64 6, .int .i64 7, .int .i64 5, .slice A2 n2 d2, .slice none 0 0] 25 (0, 0)) ∧ W.heap[w3.heap.size]? = some (.cells #[.slice A4 1 c4, .slice A5 1 c5] 29 (0, 0)) ∧ Below w.heap.size w W ∧ RdW W (.agg #[.slice A4 1 c4, .slice A5 1 c5]) [4] [b7] ∧ KIn W (w.heap.size + 1) 0 ∧ Rd (Value.int .i64) W v1 [4, 5] from fun W hW => by
    have hs3 := hab3.size
    have hW' : Below wa.heap.size wa W := hac.trans (below_of hW (by omega))
    have hW0 : Below W0.heap.size W0 W := below_then HAA.out.2.2.1 HAA.out.2.2.1.size hW'
    have hW3 : Below w3.heap.size w3 W := hbc.trans (below_of hW (by omega))
    refine ⟨(hW0.block _ (by omega)).trans HSB.out, (hW'.block _ (by omega)).trans HAA.out.1, (hW'.block _ (by omega)).trans HAA.out.2.1, (hW.block _ (by omega)).trans (heapA _ _), HB.out.trans (below_of hW0 (by omega)), ⟨_, _, rfl, (Rd.of_own (e := 3) (l := ([4] : List Int)) (enc := Value.int .i64) ho1).below hW3, (Rd.of_own (e := 47) (l := [b7]) (enc := Value.string) ho2).below hW3⟩, HK.out.below hW0, HR.out.below ?_⟩
    exact below_then hb2 hb2.size (below_then HAA.out.2.2.2 HAA.out.2.2.2.size hW'))
  have h3s : (w3.alloc (.cells #[.slice A4 1 c4, .slice A5 1 c5] 29)).heap.size = w3.heap.size + 1 := sizeA _ _
  have F := HF.out _ (Below.refl _ _)
  have k0 := cell_of_heap F.1 0 _ rfl
  have k1 := cell_of_heap F.1 1 _ rfl
  have k2 := cell_of_heap F.1 2 _ rfl
  have k3 := cell_of_heap F.1 3 _ rfl
  have k4 := cell_of_heap F.1 4 _ rfl
  have HC1 := Lib.hid (scriptCheck_known (w.heap.size + 1) 0 3 _ (by decide) (by decide) F.2.2.2.2.2.2.1)
  clear F ho1 ho2 hb3 hbb hsza hsb hab3 hbc hac HTK hbwb HCT HR
  go_wp2_with fail
  clear k0 k1 k2 k3 k4
  generalize w3.alloc (.cells #[.slice A4 1 c4, .slice A5 1 c5] 29) = wc at HF h3s HC1 ⊢
  refine HC1.out.mono ?_
  rintro e w4 ⟨rfl, hb4⟩
  have hbd := hb4.alloc hb4.size (.cells #[.int .i64 4, .int .i64 5] 3)
  have F4 := HF.out _ (below_of hbd (by omega))
  have HC2 := Lib.hid (sameNumbers_any [4, 5] [4, 5] v1 _ _ F4.2.2.2.2.2.2.2 (rd_arr (enc := Value.int .i64) [4, 5] (heapA w4 (.cells #[.int .i64 4, .int .i64 5] 3)) rfl (by decide) (by decide)))
  have HBD := Lib.hid hbd
  clear F4 hbd
  go_wp2_with fail
  refine HC2.out.mono ?_
  rintro e w5 ⟨rfl, hb5⟩
  have hx5 := Lib.hid (below_then HBD.out HBD.out.size hb5)
  have F5 := HF.out _ (below_of hx5.out (by omega))
  have p2 := cell_of_heap F5.2.1 2 _ rfl
  have q2 := cell_of_heap F5.2.2.1 2 _ rfl
  have m0 := cell_of_heap F5.2.2.2.1 0 _ rfl
  have m1 := cell_of_heap F5.2.2.2.1 1 _ rfl
  have HC3 := Lib.hid (text_known _ w5 (HT.out.below F5.2.2.2.2.1) F5.2.2.2.2.2.1)
  clear F5 hb5
  go_wp2_with fail
  refine HC3.out.mono ?_
  rintro e w6 ⟨rfl, hb6⟩
  have hx6 := Lib.hid (below_then hx5.out hx5.out.size hb6)
  have F6 := HF.out _ (below_of hx6.out (by omega))
  have r0 := cell_of_heap F6.2.2.2.1 0 _ rfl
  have r1 := cell_of_heap F6.2.2.2.1 1 _ rfl
  have HC4 := Lib.hid (covers17_any [4] [b7] b42 (by decide) (by decide) (by decide) (by intro x hx; rw [List.mem_singleton.1 hx]; decide) _ w6 (HT.out.below F6.2.2.2.2.1) F6.2.2.2.2.2.1)
  rw [canI4, roots4, show ((canS [4] [b7]).any (withinB b42) || [(⟨#[52]⟩ : ByteArray)].any (withinB b42)) = true by
    have : [(⟨#[52]⟩ : ByteArray)].any (withinB b42) = true := by decide
    rw [this, Bool.or_true]] at HC4
  clear F6 hb6 m0 m1 p2 q2
  have hstr : ((⟨#[35, 52, 32, 55]⟩ : ByteArray).toList == (⟨#[35, 52, 32, 55]⟩ : ByteArray).toList) = true := by rw [str_eq]; rfl
  go_wp2_with fail
  refine HC4.out.mono ?_
  rintro e w7 ⟨rfl, hb7⟩
  have hx7 := Lib.hid (below_then hx6.out hx6.out.size hb7)
  have F7 := HF.out _ (below_of hx7.out (by omega))
  have s0 := cell_of_heap F7.2.2.2.1 0 _ rfl
  have s1 := cell_of_heap F7.2.2.2.1 1 _ rfl
  have HC5 := Lib.hid (hasInput_any [4] [b7] 4 (by decide) (by decide) (by intro x hx; rw [List.mem_singleton.1 hx]; decide) _ w7 (HT.out.below F7.2.2.2.2.1) F7.2.2.2.2.2.1)
  rw [canI4, show hasB (4 : Int) [4] = true by decide] at HC5
  clear F7 hb7 r0 r1
  go_wp2_with fail
  refine HC5.out.mono ?_
  rintro e w8 ⟨rfl, hb8⟩
  have hx8 := below_then hx7.out hx7.out.size hb8
  have F8 := HF.out _ (below_of hx8 (by omega))
  have hf := F8.2.2.2.2.1
  clear F8 s0 s1
  go_wp2_with fail
  go_ret
  exact ⟨rfl, hf⟩
end Go.Proofs.YtcbgngkalplafaaGreatDoor
