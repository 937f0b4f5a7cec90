/- all, Covers, Plus: on top of canonical and Concat. -/
import Derived.Test.YtcbgngkalplafaaGreatDoorD1
import Derived.Deep.RegionWith
namespace Go.Proofs.YtcbgngkalplafaaGreatDoor
open Go.RowKit Go.Shelf Lin

theorem rd2_two {α : Type} {enc : α → Value} {w : World} {b : Nat} {t : TypeId} {u1 u2 : Value} {l1 l2 : List α} {c : Nat} (hb : w.heap[b]? = some (.cells #[u1, u2] t (0, 0))) (h1 : Rd enc w u1 l1) (h2 : Rd enc w u2 l2) : Rd2 enc w (.slice (some ⟨b, 0, none⟩) 2 c) [l1, l2] := by
  refine ⟨b, 0, c, rfl, fun j hj => ?_⟩
  match j, hj with
  | 0, _ => exact ⟨u1, cell_of_heap hb 0 _ rfl, h1⟩
  | 1, _ => exact ⟨u2, cell_of_heap hb 1 _ rfl, h2⟩

set_option maxRecDepth 100000 in
set_option maxHeartbeats 4000000 in
theorem all_any (is : List Int) (ls : List ByteArray) (hi1 : is.length ≤ 1000) (hl1 : ls.length ≤ 1000) (v : Value) (w : World) (hT : TabOk w) (hv : RdW w v is ls) :
    Calls Tryz.prog 35 #[v] w fun e w' => ∃ r, e = .returned r ∧ Rd Value.string w' r (ls ++ rootsL is) ∧ Below w.heap.size w w' := by
  obtain ⟨u, x, rfl, hu, hx⟩ := hv
  have hu29 := Tryz.underlying29
  have HU := Lib.hid hu
  have HX := Lib.hid hx
  have HT := Lib.hid hT
  obtain ⟨A, c, rfl, hlen⟩ := hu.slice
  obtain ⟨A', c', rfl, hlen'⟩ := hx.slice
  have HB := Lib.hid ((Below.refl w.heap.size w).alloc (Nat.le_refl _) (.cells #[.slice A is.length c, .slice A' ls.length c'] 29))
  clear hu hx hT
  go_enter Tryz.func35, Tryz.ntmps35
  go_wp2_with fail
  have HB2 := Lib.hid (show is.length ≤ 1000000 by omega)
  have HN := Lib.hid (show ([ls, rootsL is]).flatten.length ≤ 1000000 by
    have : (rootsL is).length ≤ is.length := by rw [← rootsK_all]; exact rootsK_length is _
    simp; omega)
  go_region_with (first
    | (go_at_call 66; refine Calls.mono (roots_any is HB2.out _ _ ⟨_, _, _, rfl⟩ _ ?_ ?_) ?_; (exact HT.out.below (by repeat' (first | exact HB.out | apply bdrew1))); (exact HU.out.below (by repeat' (first | exact HB.out | apply bdrew1))); intro e w1 h; obtain ⟨v1, rfl, ho1, hb1⟩ := h; obtain ⟨A1, c1, rfl⟩ := own_slice' ho1; have hh := (hb1.block w.heap.size (by simp)).trans (heapA w (.cells #[.slice A is.length c, .slice A' ls.length c'] 29)); have hk1 := cell_of_heap hh 1 _ rfl; have HO := Lib.hid (rd_names ho1); have hbw : Below w.heap.size w w1 := below_then (show Below w.heap.size w _ by repeat' (first | exact HB.out | apply bdrew1)) (by simp) hb1; have HX1 := Lib.hid (HX.out.below hbw); clear ho1)
    | (go_at_call 41; refine Calls.mono (concatName_any [ls, rootsL is] (by simp) HN.out _ _ (rd2_two (heapA _ _) (HX1.out.below ((Below.refl _ _).alloc (Nat.le_refl _) _)) (HO.out.below ((Below.refl _ _).alloc (Nat.le_refl _) _)))) ?_; intro e w2 h; obtain ⟨v2, rfl, ho2, hb2⟩ := h; have hbw2 : Below w.heap.size w w2 := below_then (hbw.alloc hbw.size _) (hbw.alloc hbw.size _).size hb2; have HO2 := Lib.hid ho2; clear ho2))
  all_goals (go_wp2_with fail; go_ret; refine ⟨_, rfl, ?_, by repeat' (first | exact hbw2 | apply bdrew1)⟩; have h9 := rd_names HO2.out; rw [show ([ls, rootsL is]).flatten = ls ++ rootsL is by simp] at h9; exact h9)

theorem canS_length (is : List Int) (ls : List ByteArray) : (canS is ls).length ≤ ls.length := by
  have h1 : (sortN (goodL (rootsL (canI is)) ls)).length ≤ (goodL (rootsL (canI is)) ls).length := by
    have := Lib.compact_length_le (sortedN (goodL (rootsL (canI is)) ls))
    rwa [sortedN_length] at this
  have h2 : (goodL (rootsL (canI is)) ls).length ≤ ls.length := by rw [← goodK_all]; exact goodK_length _ _ _
  have h3 : (canN is ls).length ≤ (sortN (goodL (rootsL (canI is)) ls)).length := List.length_filter_le _ _
  unfold canS
  rw [List.length_map]
  omega
theorem canS_size (is : List Int) (ls : List ByteArray) : ∀ x ∈ canS is ls, x.size ≤ 9223372036854775807 := by
  intro x hx
  obtain ⟨n, -, rfl⟩ := List.mem_map.1 hx
  exact n.2.2
set_option maxRecDepth 100000 in
set_option maxHeartbeats 4000000 in
theorem covers17_any (is : List Int) (ls : List ByteArray) (n : ByteArray) (hn : n.size ≤ 9223372036854775807) (hi1 : is.length ≤ 1000) (hl1 : ls.length ≤ 1000) (hs : ∀ x ∈ ls, x.size ≤ 9223372036854775807) (v : Value) (w : World) (hT : TabOk w) (hv : RdW w v is ls) :
    Calls Tryz.prog 17 #[v, .string n] w fun e w' => e = .returned (.bool ((canS is ls).any (withinB n) || (rootsL (canI is)).any (withinB n))) ∧ Below w.heap.size w w' := by
  obtain ⟨u, x, rfl, hu, hx⟩ := hv
  have hu29 := Tryz.underlying29
  have HU := Lib.hid hu
  have HX := Lib.hid hx
  have HT := Lib.hid hT
  have HS := Lib.hid hs
  obtain ⟨A, c, rfl, hlen⟩ := hu.slice
  obtain ⟨A', c', rfl, hlen'⟩ := hx.slice
  have HB := Lib.hid ((Below.refl w.heap.size w).alloc (Nat.le_refl _) (.cells #[.slice A is.length c, .slice A' ls.length c'] 29))
  clear hu hx hT hs
  go_enter Tryz.func17, Tryz.ntmps17
  go_wp2_with fail
  refine (canonical_any is ls (by omega) (by omega) HS.out _ _ _ (HT.out.below HB.out) (HU.out.below HB.out) (HX.out.below HB.out)).mono ?_
  intro e w1 hcp
  obtain ⟨v1, rfl, hrw, hb1⟩ := hcp.rd
  have hbw := below_then HB.out HB.out.size hb1
  have hci := canI_length is
  have hcs := canS_length is ls
  have HALL := Lib.hid (all_any (canI is) (canS is ls) (by omega) (by omega) v1 w1 (HT.out.below hbw) hrw)
  clear hrw hcp
  go_wp2_with fail
  refine HALL.out.mono ?_
  rintro e w2 ⟨r, rfl, hr, hb2⟩
  have HCV := Lib.hid (covers_any atoi_said (canS is ls ++ rootsL (canI is)) (by
    intro y hy
    rcases List.mem_append.1 hy with h | h
    · exact canS_size is ls y h
    · exact rootsL_size _ y h) n hn r w2 hr)
  have hbw2 := below_then hbw hbw.size hb2
  clear hr
  go_wp2_with fail
  refine HCV.out.mono ?_
  rintro e w3 ⟨rfl, hb3⟩
  have hbw3 := below_then hbw2 hbw2.size hb3
  go_wp2_with fail
  go_ret
  exact ⟨rfl, by repeat' (first | exact hbw3 | apply bdrew1)⟩
end Go.Proofs.YtcbgngkalplafaaGreatDoor
