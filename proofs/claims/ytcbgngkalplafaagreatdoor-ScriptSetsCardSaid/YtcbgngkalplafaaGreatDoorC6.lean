/- The law's canonical. -/
import Derived.Test.YtcbgngkalplafaaGreatDoorC5
import Derived.Test.YtcbgngkalplafaaGreatDoorPure3
import Derived.Laws.AppendOwnNone
namespace Go.Proofs.YtcbgngkalplafaaGreatDoor
open Go.RowKit Go.Shelf Lin

theorem own_cut {w : World} {base n : Nat} {e : TypeId} {v : Value} {xs : List Value} (h : w.ownsRow base e 1 v n xs) : (v = .slice none 0 0 ∧ n = 0) ∨ ∃ g c, v = .slice (some ⟨g, 0, none⟩) n c ∧ base ≤ g ∧ n ≤ c ∧ c ≤ 9223372036854775807 ∧ g < w.heap.size := by
  rcases h.2 with h | ⟨g, cap, cur, rfl, hb, hh, h1, h2, _⟩
  · exact .inl h
  · exact .inr ⟨g, cap, rfl, hb, h1, by simpa [maxLen] using h2, (Array.getElem?_eq_some_iff.1 hh).1⟩

theorem add_at (g m j : Nat) : (⟨g, m, none⟩ : Addr).add j = ⟨g, m + j, none⟩ := by
  unfold Addr.add
  split
  · rename_i h; subst h; rfl
  · rfl
theorem take_cells {w : World} {B n c g : Nat} {e : TypeId} {xs : List Value} (h : w.ownsRow B e 1 (.slice (some ⟨g, 0, none⟩) n c) n xs) (m : Nat) : ∀ j u, (xs.take m)[j]? = some u → w.cell? ((⟨g, 0, none⟩ : Addr).add j) = some u := by
  intro j u hu
  refine h.cells rfl j u ?_
  rw [List.getElem?_take] at hu
  split at hu
  · exact hu
  · cases hu
theorem drop_cells {w : World} {B n c g : Nat} {e : TypeId} {xs : List Value} (h : w.ownsRow B e 1 (.slice (some ⟨g, 0, none⟩) n c) n xs) (m : Nat) : ∀ j u, (xs.drop m)[j]? = some u → w.cell? ((⟨g, m, none⟩ : Addr).add j) = some u := by
  intro j u hu
  rw [List.getElem?_drop] at hu
  have := h.cells rfl (m + j) u hu
  rw [add_at] at this ⊢
  rwa [Nat.zero_add] at this
theorem ints_one (l : List Int) : ∀ u ∈ l.map (Value.int .i64), u.oneCell' = true := by
  intro u hu
  obtain ⟨x, -, rfl⟩ := List.mem_map.1 hu
  rfl
theorem below_app {W w1 : World} {B n : Nat} {e : TypeId} {v : Value} {xs : List Value} (hown : W.ownsRow B e 1 v n xs) (hB : B ≤ W.heap.size) (hg : W.grownBy w1 v.ownBlock) : Below B W w1 :=
  (Below.refl B W).grown hg hB fun k hk => (hown.lt k hk).1

set_option maxRecDepth 100000 in
set_option maxHeartbeats 8000000 in
theorem lcanonical_any (is : List Int) (ls : List ByteArray) (hi1 : is.length ≤ 1000000) (hl1 : ls.length ≤ 1000000) (hs : ∀ x ∈ ls, x.size ≤ 9223372036854775807) (u x : Value) (w : World) (hT : TabOk w)
    (hu : Rd (Value.int .i64) w u is) (hx : Rd Value.string w x ls) :
    Calls Tryz.prog 11 #[.agg #[u, x]] w (CanPost w.heap.size is ls w) := by
  have hu29 := Tryz.underlying29
  obtain ⟨i3, j1, j2, j3, j4⟩ := info_parts Tryz_info3
  obtain ⟨i0, hi, hz0, hz1, hz2⟩ := info_parts Tryz_info47
  have HU := Lib.hid hu
  have HX := Lib.hid hx
  have HT := Lib.hid hT
  have HS := Lib.hid hs
  obtain ⟨A, c, rfl, hlen⟩ := hu.slice
  obtain ⟨A', c', rfl, hlen'⟩ := hx.slice
  clear hu hx hT hs
  have hb0 := (((Below.refl w.heap.size w).alloc (Nat.le_refl _) (.cells #[.slice A is.length c, .slice A' ls.length c'] 29)).alloc (by rw [sizeA]; omega) (.cells #[.slice none 0 0, .slice none 0 0] 29)).alloc (by rw [sizeA, sizeA]; omega) (.cells #[.slice none 0 0, .slice none 0 0] 29)
  have hf0 : Fr w.heap.size (.slice A is.length c) (.slice A' ls.length c') (.slice none 0 0) (.slice none 0 0) (((w.alloc (.cells #[.slice A is.length c, .slice A' ls.length c'] 29)).alloc (.cells #[.slice none 0 0, .slice none 0 0] 29)).alloc (.cells #[.slice none 0 0, .slice none 0 0] 29)) := by
    refine ⟨?_, ?_, ?_⟩
    · rw [Below.heap_alloc _ _ _ (by rw [sizeA, sizeA]; omega), Below.heap_alloc _ _ _ (by rw [sizeA]; omega)]; exact heapA _ _
    · rw [Below.heap_alloc _ _ _ (by rw [sizeA, sizeA]; omega)]
      have := heapA (w.alloc (.cells #[.slice A is.length c, .slice A' ls.length c'] 29)) (.cells #[.slice none 0 0, .slice none 0 0] 29)
      rwa [sizeA] at this
    · have := heapA ((w.alloc (.cells #[.slice A is.length c, .slice A' ls.length c'] 29)).alloc (.cells #[.slice none 0 0, .slice none 0 0] 29)) (.cells #[.slice none 0 0, .slice none 0 0] 29)
      rwa [sizeA, sizeA] at this
  have hsz0 : (((w.alloc (.cells #[.slice A is.length c, .slice A' ls.length c'] 29)).alloc (.cells #[.slice none 0 0, .slice none 0 0] 29)).alloc (.cells #[.slice none 0 0, .slice none 0 0] 29)).heap.size = w.heap.size + 3 := by rw [sizeA, sizeA, sizeA]
  go_enter Tryz.func11, Tryz.ntmps11
  go_wp2_with fail
  generalize (((w.alloc (.cells #[.slice A is.length c, .slice A' ls.length c'] 29)).alloc (.cells #[.slice none 0 0, .slice none 0 0] 29)).alloc (.cells #[.slice none 0 0, .slice none 0 0] 29)) = w0 at hb0 hf0 hsz0 ⊢
  go_loopw [4] (fun a wr => ∃ (k : Nat) (v : Value) (L : List Int), a = .int .i64 k ∧ k ≤ is.length ∧ Fr w.heap.size (.slice A is.length c) (.slice A' ls.length c') v (.slice none 0 0) wr ∧ IsSort (fun a b : Int => a < b) (posK is k) L ∧ wr.ownsRow (w.heap.size + 3) 3 1 v L.length (L.map (Value.int .i64)) ∧ (L = [] → v = .slice none 0 0) ∧ L.length ≤ k ∧ Below w.heap.size w wr ∧ w.heap.size + 3 ≤ wr.heap.size) (fun a _ => is.length - (intOf a).toNat)
  case atStart => exact ⟨0, _, [], rfl, by omega, hf0, ⟨List.Pairwise.nil, by simp [posK]⟩, World.ownsRow_nil _ _ _ _, fun _ => rfl, by simp, hb0, by omega⟩
  case round =>
    obtain ⟨k, v, L, rfl, hk, hf, hsort, hown, hnil, hLk, hb, hsz⟩ := hrel
    obtain ⟨A4, c4, rfl⟩ := own_slice' hown
    have HOW := Lib.hid hown
    have HF := Lib.hid hf
    have HSO := Lib.hid hsort
    have hcl := cell_of_heap hf.2.2 0 _ rfl
    have hfz := frozen_of hf.2.2 0
    have hca := cell_of_heap hf.1 0 _ rfl
    have hcx := cell_of_heap hf.1 1 _ rfl
    clear hown hf hb0 hf0 hsz0 hsort
    by_cases h1 : k < is.length
    · have h1' : (k : Int) < (is.length : Int) := by omega
      obtain ⟨-, -, b, off, rfl, hx⟩ := (HU.out.below hb).at (by omega)
      have hx := hx k h1
      have HP := Lib.hid (posK_succ is k h1)
      have HLN := Lib.hid hnil
      have HRL := Lib.hid (Rd.own_int HOW.out)
      clear hnil
      go_wp2_with fail
      go_loopw [6] (fun a wq => ∃ j : Nat, a = .int .i64 j ∧ j ≤ lo is[k] L ∧ ∃ q, wq = wr.drewN q) (fun a _ => lo is[k] L - (intOf a).toNat)
      case atStart => exact ⟨0, rfl, by omega, 0, rfl⟩
      case round =>
        obtain ⟨j, rfl, hj, q, rfl⟩ := hrel
        have hlo := lo_le is[k] L
        by_cases h2 : j < L.length
        · have h2' : (j : Int) < (L.length : Int) := by omega
          obtain ⟨-, -, b4, off4, rfl, hy⟩ := HRL.out.at (by omega)
          have hy := hy j h2
          by_cases h3 : j < lo is[k] L
          · have h3' := lo_lt is[k] L j h3 h2
            go_wp2_with fail
            repeat (go_quiet (fail); try go_wp2_with fail)
            go_round
            case rel => exact ⟨j + 1, by go_num, by omega, q, rfl⟩
            case measure => simp [intOf]; omega
          · obtain rfl : j = lo is[k] L := by omega
            have h3' := lo_at is[k] L h2
            have HO2 := Lib.hid (show (wr.drewN q).ownsRow (w.heap.size + 3) 3 1 (.slice (some ⟨b4, off4, none⟩) L.length c4) L.length (L.map (Value.int .i64)) from HOW.out)
            have HF2 := Lib.hid (show Fr w.heap.size _ _ _ _ (wr.drewN q) from HF.out)
            have hb2 := bdrew hb q
            have hsz2 : w.heap.size + 3 ≤ (wr.drewN q).heap.size := hsz
            generalize wr.drewN q = wq at HO2 HF2 hb2 hsz2 ⊢
            have hcl2 := cell_of_heap HF2.out.2.2 0 _ rfl
            have hy : wq.cell? ⟨b4, off4 + lo is[k] L, none⟩ = some (.int .i64 L[lo is[k] L]) := by
              obtain ⟨-, -, b5, off5, e5, hy5⟩ := (Rd.own_int HO2.out).at (by omega)
              cases e5
              exact hy5 _ h2
            clear hcl hfz hca hcx
            by_cases h4 : is[k] < 1
            · have HK := Lib.hid (show posK is (k + 1) = posK is k by rw [HP.out, if_neg (by omega), List.append_nil])
              go_wp2_with fail
              repeat (go_quiet (fail); try go_wp2_with fail)
              go_round
              case rel => exact ⟨k + 1, _, L, by go_num, by omega, HF2.out, by rw [HK.out]; exact HSO.out, HO2.out, HLN.out, by omega, hb2, hsz2⟩
              case measure => simp [intOf]; omega
            · have HK := Lib.hid (show posK is (k + 1) = posK is k ++ [is[k]] by rw [HP.out, if_pos (by omega)])
              by_cases h5 : L[lo is[k] L] = is[k]
              · have h5' : (L[lo is[k] L] == is[k]) = true := by rw [beq_iff_eq]; exact h5
                have HQ := Lib.hid (ins_same HSO.out h2 h5)
                clear h5
                go_wp2_with fail
                repeat (go_quiet (fail); try go_wp2_with fail)
                go_round
                case rel => exact ⟨k + 1, _, L, by go_num, by omega, HF2.out, by rw [HK.out]; exact HQ.out, HO2.out, HLN.out, by omega, hb2, hsz2⟩
                case measure => simp [intOf]; omega
              · have h5' : (L[lo is[k] L] == is[k]) = false := by rw [beq_eq_false_iff_ne]; exact h5
                have HQ := Lib.hid (ins_sort HSO.out (fun _ => h5))
                obtain ⟨hn1, -⟩ | ⟨g5, c5, e5, hg5, hlc, hcm, hglt⟩ := own_cut HO2.out
                · cases hn1
                cases e5
                rw [Nat.zero_add] at hy
                clear h5
                have hcl3 : (wq.alloc (.cells #[] 3)).cell? ⟨w.heap.size + 1 + 1, 0, none⟩ = some (.slice (some ⟨b4, 0, none⟩) L.length c4) := cellO _ hcl2
                have hlit := Lib.hid (World.ownsRow_lit (base := wq.heap.size) (e := 3) (size := 1) wq #[] 0 (Nat.le_refl _) (by simp [maxLen]) rfl)
                have hlc2 : ((lo is[k] L : Nat) : Int) ≤ (c4 : Int) := by omega
                have HLL := Lib.hid hlo
                have HLL2 := Lib.hid hLk
                have HI1 := Lib.hid hi1
                go_wp2_with (first
                  | (at_builtin; refine wpList_append_own _ rfl _ _ 26 rfl wq.heap.size 3 i3 (.int .i64 0) 1 8 Tryz.underlying26 j1 j2 j3 j4 rfl (by decide) _ 0 _ rfl hlit.out ⟨b4, 0, none⟩ (lo is[k] L) c4 ((L.take (lo is[k] L)).map (Value.int .i64)) rfl (by have := HLL.out; simp; omega) (by rw [List.map_take]; exact take_cells (HO2.out.alloc _) _) (ints_one _) (by have := HLL.out; have := HLL2.out; have := HI1.out; simp only [maxLen]; omega) (by have := HLL.out; have := HLL2.out; have := HI1.out; omega) (by rw [sizeA]; omega) ?_; intro v1 w1 hown1 hgrow1 _; have hown1' : w1.ownsRow wq.heap.size 3 1 v1 (lo is[k] L) ((L.take (lo is[k] L)).map (Value.int .i64)) := (by rw [Nat.zero_add] at hown1; exact hown1); have hbA := ((Below.refl wq.heap.size wq).alloc (Nat.le_refl _) (.cells #[] 3)).trans (below_app hlit.out (by rw [sizeA]; omega) hgrow1); obtain ⟨A1, c1, rfl⟩ := own_slice' hown1'; have hszA := hbA.size)
                  | (at_builtin; refine wpList_append_own _ rfl _ _ 26 rfl wq.heap.size 3 i3 (.int .i64 0) 1 8 Tryz.underlying26 j1 j2 j3 j4 rfl (by decide) _ (lo is[k] L) _ rfl (hown1'.alloc _) ⟨w1.heap.size, 0, none⟩ 1 1 [.int .i64 is[k]] rfl rfl (cell_one_new _ _ _) (by simp [Value.oneCell']) (by have := HLL.out; have := HLL2.out; have := HI1.out; simp only [maxLen]; omega) (by have := HLL.out; have := HLL2.out; have := HI1.out; omega) (by rw [sizeA]; omega) ?_; intro v2 w2 hown2 hgrow2 _; have hbB := hbA.trans (below_append hown1' hszA hgrow2); obtain ⟨A2, c2, rfl⟩ := own_slice' hown2; have hszB := hbB.size; have hcl4 := cell_of_heap (HF2.out.below hbB hsz2).2.2 0 _ rfl)
                  | (at_builtin; refine wpList_append_own _ rfl _ _ 26 rfl wq.heap.size 3 i3 (.int .i64 0) 1 8 Tryz.underlying26 j1 j2 j3 j4 rfl (by decide) _ (lo is[k] L + 1) _ rfl hown2 ⟨b4, lo is[k] L, none⟩ (L.length - lo is[k] L) (c4 - lo is[k] L) ((L.drop (lo is[k] L)).map (Value.int .i64)) rfl (by simp) (by rw [List.map_drop]; exact drop_cells (owns_below HO2.out (below_of hbB (Nat.le_refl _))) _) (ints_one _) (by have := HLL.out; have := HLL2.out; have := HI1.out; simp only [maxLen]; omega) (by have := HLL.out; have := HLL2.out; have := HI1.out; omega) hszB ?_; intro v3 w3 hown3 hgrow3 _; have hbC := hbB.trans (below_app hown2 hszB hgrow3); obtain ⟨A3, c3, rfl⟩ := own_slice' hown3; have hf5 := HF2.out.below hbC hsz2; have hc5 := cell_of_heap hf5.2.2 0 _ rfl; have hz5 := frozen_of hf5.2.2 0))
                have hszC := hbC.size
                go_round
                case rel =>
                  have hL : ((L.take (lo is[k] L) ++ [is[k]]) ++ L.drop (lo is[k] L)).length = lo is[k] L + 1 + (L.length - lo is[k] L) := by simp; omega
                  refine ⟨k + 1, _, (L.take (lo is[k] L) ++ [is[k]]) ++ L.drop (lo is[k] L), by go_num, by omega, hf5.set0 _, by rw [HK.out]; exact HQ.out, ?_, fun h => (by simp at h), by rw [hL]; omega, (hb2.trans (below_of hbC (by omega))).setCell (by show w.heap.size ≤ w.heap.size + 2; omega) _, by simp only [World.setCell, Array.size_modify]; omega⟩
                  rw [hL, List.map_append, List.map_append]
                  exact ownsRow_setCell_below (owns_at hown3 hsz2) (by show w.heap.size + 2 < _; omega) _
                case measure => simp [intOf]; omega
        · have hlo2 : lo is[k] L = L.length := by omega
          obtain rfl : j = lo is[k] L := by omega
          have hge : ¬ ((lo is[k] L : Nat) : Int) < (L.length : Int) := by omega
          have HO2 := Lib.hid (show (wr.drewN q).ownsRow (w.heap.size + 3) 3 1 (.slice A4 L.length c4) L.length (L.map (Value.int .i64)) from HOW.out)
          have HF2 := Lib.hid (show Fr w.heap.size _ _ _ _ (wr.drewN q) from HF.out)
          have hb2 := bdrew hb q
          have hsz2 : w.heap.size + 3 ≤ (wr.drewN q).heap.size := hsz
          generalize wr.drewN q = wq at HO2 HF2 hb2 hsz2 ⊢
          have hcl2 := cell_of_heap HF2.out.2.2 0 _ rfl
          have HQ := Lib.hid (ins_sort HSO.out (fun h => absurd h h2))
          clear hcl hfz hca hcx
          by_cases h4 : is[k] < 1
          · have HK := Lib.hid (show posK is (k + 1) = posK is k by rw [HP.out, if_neg (by omega), List.append_nil])
            clear hlo2
            go_wp2_with fail
            repeat (go_quiet (fail); try go_wp2_with fail)
            go_round
            case rel => exact ⟨k + 1, _, L, by go_num, by omega, HF2.out, by rw [HK.out]; exact HSO.out, HO2.out, HLN.out, by omega, hb2, hsz2⟩
            case measure => simp [intOf]; omega
          · have HK := Lib.hid (show posK is (k + 1) = posK is k ++ [is[k]] by rw [HP.out, if_pos (by omega)])
            by_cases hL0 : L = []
            · subst hL0
              cases HLN.out rfl
              have hcl3 : (wq.alloc (.cells #[] 3)).cell? ⟨w.heap.size + 1 + 1, 0, none⟩ = some (.slice none 0 0) := cellO _ hcl2
              have hlit := Lib.hid (World.ownsRow_lit (base := wq.heap.size) (e := 3) (size := 1) wq #[] 0 (Nat.le_refl _) (by simp [maxLen]) rfl)
              have hz : lo is[k] [] = 0 := rfl
              clear hlo2 hge hj hlo h2
              rw [hz]
              clear hz
              go_wp2_with (first
                | (at_builtin; refine wpList_append_own_none rfl _ _ 26 rfl wq.heap.size 3 i3 1 Tryz.underlying26 j1 _ 0 _ rfl hlit.out rfl ?_)
                | (at_builtin; refine wpList_append_own _ rfl _ _ 26 rfl wq.heap.size 3 i3 (.int .i64 0) 1 8 Tryz.underlying26 j1 j2 j3 j4 rfl (by decide) _ 0 _ rfl (hlit.out.alloc _) ⟨wq.heap.size + 1, 0, none⟩ 1 1 [.int .i64 is[k]] rfl rfl (by have := cell_one_new (wq.alloc (.cells #[] 3)) (.int .i64 is[k]) 3; rw [sizeA] at this; exact this) (by simp [Value.oneCell']) (by simp [maxLen]) (by omega) (by rw [sizeA, sizeA]; omega) ?_; intro v2 w2 hown2 hgrow2 _; have hbB := ((Below.refl wq.heap.size wq).alloc (Nat.le_refl _) (.cells #[] 3)).trans (below_append hlit.out (by rw [sizeA]; omega) hgrow2); obtain ⟨A2, c2, rfl⟩ := own_slice' hown2; have hszB := hbB.size; have hf5 := HF2.out.below hbB hsz2; have hc5 := cell_of_heap hf5.2.2 0 _ rfl; have hz5 := frozen_of hf5.2.2 0)
                | (at_builtin; refine wpList_append_own_none rfl _ _ 26 rfl wq.heap.size 3 i3 1 Tryz.underlying26 j1 _ _ _ rfl hown2 rfl ?_))
              have hszB2 := hbB.size
              go_round
              case rel =>
                refine ⟨k + 1, _, [is[k]], by go_num, by omega, hf5.set0 _, by rw [HK.out]; exact HQ.out, ownsRow_setCell_below (owns_at hown2 hsz2) (by show w.heap.size + 2 < _; omega) _, fun h => (by simp at h), by simp, (hb2.trans (below_of hbB (by omega))).setCell (by show w.heap.size ≤ w.heap.size + 2; omega) _, by simp only [World.setCell, Array.size_modify]; omega⟩
              case measure => simp [intOf]; omega
            · have HLO2 := Lib.hid hlo2
              clear hlo2
              obtain ⟨hn1, hn2⟩ | ⟨b4, c5, e5, hg5, hlc, hcm, hglt⟩ := own_cut HO2.out
              · exact absurd (List.eq_nil_of_length_eq_zero hn2) hL0
              cases e5
              have hcl3 : (wq.alloc (.cells #[] 3)).cell? ⟨w.heap.size + 1 + 1, 0, none⟩ = some (.slice (some ⟨b4, 0, none⟩) L.length c4) := cellO _ hcl2
              have hlit := Lib.hid (World.ownsRow_lit (base := wq.heap.size) (e := 3) (size := 1) wq #[] 0 (Nat.le_refl _) (by simp [maxLen]) rfl)
              have hlc2 : ((lo is[k] L : Nat) : Int) ≤ (c4 : Int) := by omega
              have HLL := Lib.hid hlo
              have HLL2 := Lib.hid hLk
              have HI1 := Lib.hid hi1
              by_cases hcap : c4 = lo is[k] L
              · subst hcap
                clear hlc
                go_wp2_with (first
                  | (at_builtin; refine wpList_append_own _ rfl _ _ 26 rfl wq.heap.size 3 i3 (.int .i64 0) 1 8 Tryz.underlying26 j1 j2 j3 j4 rfl (by decide) _ 0 _ rfl hlit.out ⟨b4, 0, none⟩ (lo is[k] L) _ ((L.take (lo is[k] L)).map (Value.int .i64)) rfl (by have := HLL.out; simp; omega) (by rw [List.map_take]; exact take_cells (HO2.out.alloc _) _) (ints_one _) (by have := HLL.out; have := HLL2.out; have := HI1.out; simp only [maxLen]; omega) (by have := HLL.out; have := HLL2.out; have := HI1.out; omega) (by rw [sizeA]; omega) ?_; intro v1 w1 hown1 hgrow1 _; have hown1' : w1.ownsRow wq.heap.size 3 1 v1 (lo is[k] L) ((L.take (lo is[k] L)).map (Value.int .i64)) := (by rw [Nat.zero_add] at hown1; exact hown1); have hbA := ((Below.refl wq.heap.size wq).alloc (Nat.le_refl _) (.cells #[] 3)).trans (below_app hlit.out (by rw [sizeA]; omega) hgrow1); obtain ⟨A1, c1, rfl⟩ := own_slice' hown1'; have hszA := hbA.size)
                  | (at_builtin; refine wpList_append_own _ rfl _ _ 26 rfl wq.heap.size 3 i3 (.int .i64 0) 1 8 Tryz.underlying26 j1 j2 j3 j4 rfl (by decide) _ (lo is[k] L) _ rfl (hown1'.alloc _) ⟨w1.heap.size, 0, none⟩ 1 1 [.int .i64 is[k]] rfl rfl (cell_one_new _ _ _) (by simp [Value.oneCell']) (by have := HLL.out; have := HLL2.out; have := HI1.out; simp only [maxLen]; omega) (by have := HLL.out; have := HLL2.out; have := HI1.out; omega) (by rw [sizeA]; omega) ?_; intro v2 w2 hown2 hgrow2 _; have hbB := hbA.trans (below_append hown1' hszA hgrow2); obtain ⟨A2, c2, rfl⟩ := own_slice' hown2; have hszB := hbB.size; have hcl4 := cell_of_heap (HF2.out.below hbB hsz2).2.2 0 _ rfl)
                  | (at_builtin; refine wpList_append_own _ rfl _ _ 26 rfl wq.heap.size 3 i3 (.int .i64 0) 1 8 Tryz.underlying26 j1 j2 j3 j4 rfl (by decide) _ (lo is[k] L + 1) _ rfl hown2 ⟨b4, 0, none⟩ (L.length - lo is[k] L) _ [] rfl (by have := HLO2.out; simp; omega) (by simp) (by simp) (by have := HLO2.out; have := HLL.out; have := HLL2.out; have := HI1.out; simp only [maxLen]; omega) (by have := HLO2.out; have := HLL.out; have := HLL2.out; have := HI1.out; omega) hszB ?_; intro v3 w3 hown3 hgrow3 _; have hbC := hbB.trans (below_app hown2 hszB hgrow3); obtain ⟨A3, c3, rfl⟩ := own_slice' hown3; have hf5 := HF2.out.below hbC hsz2; have hc5 := cell_of_heap hf5.2.2 0 _ rfl; have hz5 := frozen_of hf5.2.2 0))
                have hszC := hbC.size
                go_round
                case rel =>
                  have hL : ((L.take (lo is[k] L) ++ [is[k]]) ++ L.drop (lo is[k] L)).length = lo is[k] L + 1 + (L.length - lo is[k] L) := by simp; omega
                  refine ⟨k + 1, _, (L.take (lo is[k] L) ++ [is[k]]) ++ L.drop (lo is[k] L), by go_num, by omega, hf5.set0 _, by rw [HK.out]; exact HQ.out, ?_, fun h => (by simp at h), by rw [hL]; omega, (hb2.trans (below_of hbC (by omega))).setCell (by show w.heap.size ≤ w.heap.size + 2; omega) _, by simp only [World.setCell, Array.size_modify]; omega⟩
                  have hdr : L.drop (lo is[k] L) = [] := List.drop_eq_nil_of_le (by have := HLO2.out; omega)
                  rw [hL, List.map_append, List.map_append, hdr, List.map_nil]
                  exact ownsRow_setCell_below (owns_at hown3 hsz2) (by show w.heap.size + 2 < _; omega) _
                case measure => simp [intOf]; omega
              · go_wp2_with (first
                  | (at_builtin; refine wpList_append_own _ rfl _ _ 26 rfl wq.heap.size 3 i3 (.int .i64 0) 1 8 Tryz.underlying26 j1 j2 j3 j4 rfl (by decide) _ 0 _ rfl hlit.out ⟨b4, 0, none⟩ (lo is[k] L) _ ((L.take (lo is[k] L)).map (Value.int .i64)) rfl (by have := HLL.out; simp; omega) (by rw [List.map_take]; exact take_cells (HO2.out.alloc _) _) (ints_one _) (by have := HLL.out; have := HLL2.out; have := HI1.out; simp only [maxLen]; omega) (by have := HLL.out; have := HLL2.out; have := HI1.out; omega) (by rw [sizeA]; omega) ?_; intro v1 w1 hown1 hgrow1 _; have hown1' : w1.ownsRow wq.heap.size 3 1 v1 (lo is[k] L) ((L.take (lo is[k] L)).map (Value.int .i64)) := (by rw [Nat.zero_add] at hown1; exact hown1); have hbA := ((Below.refl wq.heap.size wq).alloc (Nat.le_refl _) (.cells #[] 3)).trans (below_app hlit.out (by rw [sizeA]; omega) hgrow1); obtain ⟨A1, c1, rfl⟩ := own_slice' hown1'; have hszA := hbA.size)
                  | (at_builtin; refine wpList_append_own _ rfl _ _ 26 rfl wq.heap.size 3 i3 (.int .i64 0) 1 8 Tryz.underlying26 j1 j2 j3 j4 rfl (by decide) _ (lo is[k] L) _ rfl (hown1'.alloc _) ⟨w1.heap.size, 0, none⟩ 1 1 [.int .i64 is[k]] rfl rfl (cell_one_new _ _ _) (by simp [Value.oneCell']) (by have := HLL.out; have := HLL2.out; have := HI1.out; simp only [maxLen]; omega) (by have := HLL.out; have := HLL2.out; have := HI1.out; omega) (by rw [sizeA]; omega) ?_; intro v2 w2 hown2 hgrow2 _; have hbB := hbA.trans (below_append hown1' hszA hgrow2); obtain ⟨A2, c2, rfl⟩ := own_slice' hown2; have hszB := hbB.size; have hcl4 := cell_of_heap (HF2.out.below hbB hsz2).2.2 0 _ rfl)
                  | (at_builtin; refine wpList_append_own _ rfl _ _ 26 rfl wq.heap.size 3 i3 (.int .i64 0) 1 8 Tryz.underlying26 j1 j2 j3 j4 rfl (by decide) _ (lo is[k] L + 1) _ rfl hown2 ⟨b4, lo is[k] L, none⟩ (L.length - lo is[k] L) _ [] rfl (by have := HLO2.out; simp; omega) (by simp) (by simp) (by have := HLO2.out; have := HLL.out; have := HLL2.out; have := HI1.out; simp only [maxLen]; omega) (by have := HLO2.out; have := HLL.out; have := HLL2.out; have := HI1.out; omega) hszB ?_; intro v3 w3 hown3 hgrow3 _; have hbC := hbB.trans (below_app hown2 hszB hgrow3); obtain ⟨A3, c3, rfl⟩ := own_slice' hown3; have hf5 := HF2.out.below hbC hsz2; have hc5 := cell_of_heap hf5.2.2 0 _ rfl; have hz5 := frozen_of hf5.2.2 0))
                have hszC := hbC.size
                go_round
                case rel =>
                  have hL : ((L.take (lo is[k] L) ++ [is[k]]) ++ L.drop (lo is[k] L)).length = lo is[k] L + 1 + (L.length - lo is[k] L) := by simp; omega
                  refine ⟨k + 1, _, (L.take (lo is[k] L) ++ [is[k]]) ++ L.drop (lo is[k] L), by go_num, by omega, hf5.set0 _, by rw [HK.out]; exact HQ.out, ?_, fun h => (by simp at h), by rw [hL]; omega, (hb2.trans (below_of hbC (by omega))).setCell (by show w.heap.size ≤ w.heap.size + 2; omega) _, by simp only [World.setCell, Array.size_modify]; omega⟩
                  have hdr : L.drop (lo is[k] L) = [] := List.drop_eq_nil_of_le (by have := HLO2.out; omega)
                  rw [hL, List.map_append, List.map_append, hdr, List.map_nil]
                  exact ownsRow_setCell_below (owns_at hown3 hsz2) (by show w.heap.size + 2 < _; omega) _
                case measure => simp [intOf]; omega
    · have h1' : ¬ (k : Int) < (is.length : Int) := by omega
      obtain rfl : k = is.length := by omega
      rename World => wl
      have hLc : L = canI is := IsSort.unique slo_int HSO.out (canI_is is) fun x => by rw [posK_all]
      subst hLc
      have HRL := Lib.hid (Rd.own_int HOW.out)
      have HCL := Lib.hid (canI_length is)
      have HRS := Lib.hid (rootsL_size (canI is))
      go_wp2_with fail
      clear hcl hfz hca hcx
      go_loopw [8, 9] (fun a b wr => ∃ k : Nat, b = .int .i64 k ∧ k ≤ ls.length ∧ wr.ownsRow wl.heap.size 47 1 a (goodK (rootsL (canI is)) ls k).length ((goodK (rootsL (canI is)) ls k).map encN) ∧ Below wl.heap.size wl wr) (fun _ b _ => ls.length - (intOf b).toNat)
      case atStart => exact ⟨0, rfl, by omega, World.ownsRow_nil _ _ _ _, Below.refl _ _⟩
      case round =>
        obtain ⟨k, rfl, hk2, hown, hbz⟩ := hrel
        obtain ⟨A7, c7, rfl⟩ := own_slice' hown
        have HOZ := Lib.hid hown
        have hbw := below_then hb hb.size hbz
        have HFZ := Lib.hid (HF.out.below hbz hsz)
        have hcx := cell_of_heap HFZ.out.1 1 _ rfl
        have hcl := cell_of_heap HFZ.out.2.2 0 _ rfl
        have hszz := hbz.size
        clear hown
        by_cases h1 : k < ls.length
        · have h1'' : (k : Int) < (ls.length : Int) := by omega
          obtain ⟨-, -, b, off, rfl, hx⟩ := (HX.out.below hbw).at (by omega)
          have hx := hx k h1
          have HP := Lib.hid (goodK_succ (rootsL (canI is)) ls k h1)
          have HL := Lib.hid (goodK_length (rootsL (canI is)) ls k)
          have HSK := Lib.hid (HS.out ls[k] (List.getElem_mem _))
          by_cases hem : ls[k] = ByteArray.empty
          · have HK := Lib.hid (show goodK (rootsL (canI is)) ls (k + 1) = goodK (rootsL (canI is)) ls k by
              rw [HP.out, pickN_no (by simp [pickB, okN, hem])]; simp)
            have hq : (ls[k].toList == ([] : List UInt8)) = true := by rw [hem, toList_empty]; rfl
            have hq2 : ls[k].toList.isEmpty = true := by rw [hem, toList_empty]; rfl
            clear hem
            go_wp2_with fail
            repeat (go_quiet (fail); try go_wp2_with fail)
            go_round
            case rel =>
              refine ⟨k + 1, by go_num, by omega, ?_, by repeat' (first | exact hbz | apply bdrew)⟩
              rw [HK.out]; exact HOZ.out
            case measure => simp [intOf]; omega
          · have hne : ls[k].toList ≠ [] := by
              intro e
              apply hem
              have h2 := str_eq ls[k] ByteArray.empty
              rw [e, toList_empty] at h2
              exact of_decide_eq_true (h2.symm.trans rfl)
            have hq : (ls[k].toList == ([] : List UInt8)) = false := by rw [beq_eq_false_iff_ne]; exact hne
            have hq2 : ls[k].toList.isEmpty = false := by rw [← Bool.not_eq_true, List.isEmpty_iff]; exact hne
            have HEM := Lib.hid (show decide (ls[k] ≠ ByteArray.empty) = true from decide_eq_true hem)
            clear hem hne
            go_wp2_with fail
            refine (valid_any atoi_said ls[k] HSK.out wr).mono ?_
            rintro e w6 ⟨rfl, hb6⟩
            have hb06 := below_then hbz hbz.size hb6
            have HF6 := Lib.hid (HF.out.below hb06 hsz)
            have HO6 := Lib.hid (owns_below HOZ.out hb6)
            have hcl6 := cell_of_heap HF6.out.2.2 0 _ rfl
            cases hvd : validB ls[k] with
            | false =>
              have HK := Lib.hid (show goodK (rootsL (canI is)) ls (k + 1) = goodK (rootsL (canI is)) ls k by
                rw [HP.out, pickN_no (by simp [pickB, okN, hvd])]; simp)
              clear hvd
              go_wp2_with fail
              repeat (go_quiet (fail); try go_wp2_with fail)
              go_round
              case rel =>
                refine ⟨k + 1, by go_num, by omega, ?_, by repeat' (first | exact hb06 | apply bdrew)⟩
                rw [HK.out]; exact HO6.out
              case measure => simp [intOf]; omega
            | true =>
              have HVD := Lib.hid hvd
              have HRT := Lib.hid (rooted_any (canI is) ls[k] HSK.out _ w6 (HT.out.below (below_then hb hb.size hb06)) (HRL.out.below hb06))
              clear hvd
              go_wp2_with fail
              refine HRT.out.mono ?_
              rintro e w7 ⟨rfl, hb7⟩
              have hb07 := below_then hb06 hb06.size hb7
              have HF7 := Lib.hid (HF.out.below hb07 hsz)
              have HO7 := Lib.hid (owns_below HO6.out hb7)
              have hsz7 := hb07.size
              cases hcv : rootedB (canI is) ls[k] with
              | true =>
                have HK := Lib.hid (show goodK (rootsL (canI is)) ls (k + 1) = goodK (rootsL (canI is)) ls k by
                  rw [HP.out, pickN_no (by
                    have : (rootsL (canI is)).any (withinB ls[k]) = true := hcv
                    simp only [pickB, this]; simp)]; simp)
                clear hcv
                go_wp2_with fail
                repeat (go_quiet (fail); try go_wp2_with fail)
                go_round
                case rel =>
                  refine ⟨k + 1, by go_num, by omega, ?_, by repeat' (first | exact hb07 | apply bdrew)⟩
                  rw [HK.out]; exact HO7.out
                case measure => simp [intOf]; omega
              | false =>
                have HY := Lib.hid (pickN_yes (show pickB (rootsL (canI is)) ls[k] = true by
                  have : (rootsL (canI is)).any (withinB ls[k]) = false := hcv
                  simp only [pickB, this, okN, HEM.out, HVD.out]; rfl) HSK.out)
                obtain ⟨nm, hnm, hpk⟩ := HY.out
                have HK := Lib.hid (show goodK (rootsL (canI is)) ls (k + 1) = goodK (rootsL (canI is)) ls k ++ [nm] by rw [HP.out, hpk]; rfl)
                have HN := Lib.hid (show encN nm = .string ls[k] by rw [encN, hnm])
                clear hcv hnm hpk
                go_wp2_with (at_builtin; refine wpList_append_own _ rfl _ _ 27 rfl wl.heap.size 47 i0 (.string ByteArray.empty) 1 16 Tryz.underlying27 hi hz0 hz1 hz2 rfl (by decide) _ _ _ rfl (HO7.out.alloc _) ⟨w7.heap.size, 0, none⟩ 1 1 [.string ls[k]] rfl rfl (cell_one_new _ _ _) (by simp [Value.oneCell']) (by have := HL.out; simp only [maxLen]; omega) (by have := HL.out; omega) (by rw [sizeA]; omega) ?_; intro v' w8 hown' hgrow _; have hb8 := below_append HO7.out hsz7 hgrow)
                go_round
                case rel =>
                  refine ⟨k + 1, by go_num, by omega, ?_, hb07.trans hb8⟩
                  rw [HK.out, List.length_append, List.map_append, List.map_cons, HN.out]
                  exact hown'
                case measure => simp [intOf]; omega
        · have h1'' : ¬ (k : Int) < (ls.length : Int) := by omega
          obtain rfl : k = ls.length := by omega
          have HGL := Lib.hid (goodK_length (rootsL (canI is)) ls ls.length)
          have HTP := Lib.hid (tops_any atoi_said (goodK (rootsL (canI is)) ls ls.length) (by have := HGL.out; omega) _ wr (rd_nms HOZ.out))
          have HFR := Lib.hid (HF.out.below hbz hsz)
          go_wp2_with fail
          refine HTP.out.mono ?_
          rintro e w6 ⟨y6, S, rfl, hS, -, ho6, hb6⟩
          obtain ⟨A8, c8, rfl⟩ := own_slice' ho6
          have HSS := Lib.hid hS
          have HO6 := Lib.hid ho6
          have HF6 := Lib.hid (HFR.out.below hb6 (by omega))
          have hc6 := cell_of_heap HF6.out.2.2 1 _ rfl
          have hc60 := cell_of_heap HF6.out.2.2 0 _ rfl
          have hz6 := frozen_of HF6.out.2.2 1
          have hr0 := cell_of_heap HF6.out.2.1 0 _ rfl
          have hr1 := cell_of_heap HF6.out.2.1 1 _ rfl
          have hz60 := frozen_of HF6.out.2.1 0
          have hz61 := frozen_of HF6.out.2.1 1
          clear hS ho6 hcl hcx
          go_wp2_with fail
          have hh : (((w6.setCell ⟨w.heap.size + 1 + 1, 1, none⟩ (.slice A8 (topsL S).length c8)).setCell ⟨w.heap.size + 1, 0, none⟩ (.slice A4 (canI is).length c4)).setCell ⟨w.heap.size + 1, 1, none⟩ (.slice A8 (topsL S).length c8)).heap[w.heap.size + 1]? = some (.cells #[.slice A4 (canI is).length c4, .slice A8 (topsL S).length c8] 29 (0, 0)) := by
            have h1 := (Below.heap_setCell w6 ⟨w.heap.size + 1 + 1, 1, none⟩ (.slice A8 (topsL S).length c8) (w.heap.size + 1) (by simp)).trans HF6.out.2.1
            exact heap_set (heap_set h1 0 _) 1 _
          refine bodyPost_ret (results_cell_row rfl _ _ (w.heap.size + 1) 29 _ (0, 0) _ rfl hh hu29 rfl Tryz_size29) rfl ?_
          have hOI := owns_below (owns_below HOW.out hbz) hb6
          have hOY := owns_at HO6.out hszz
          refine ⟨_, _, rfl, owns_at (ownsRow_setCell_below (ownsRow_setCell_below (ownsRow_setCell_below hOI ?_ _) ?_ _) ?_ _) (by omega), ?_, ?_⟩
          · show w.heap.size + 2 < _; omega
          · show w.heap.size + 1 < _; omega
          · show w.heap.size + 1 < _; omega
          · have hS : topsL S = canN is ls := by
              rw [canN, ← goodK_all, sortN_eq HSS.out]
            rw [← hS]
            have h2 := ownsRow_setCell_below (ownsRow_setCell_below (ownsRow_setCell_below hOY (a := ⟨w.heap.size + 1 + 1, 1, none⟩) (by show w.heap.size + 2 < _; omega) (.slice A8 (topsL S).length c8)) (a := ⟨w.heap.size + 1, 0, none⟩) (by show w.heap.size + 1 < _; omega) (.slice A4 (canI is).length c4)) (a := ⟨w.heap.size + 1, 1, none⟩) (by show w.heap.size + 1 < _; omega) (.slice A8 (topsL S).length c8)
            exact owns_at h2 (by omega)
          · exact (((below_then hbw hbw.size hb6).setCell (by show w.heap.size ≤ w.heap.size + 2; omega) _).setCell (by show w.heap.size ≤ w.heap.size + 1; omega) _).setCell (by show w.heap.size ≤ w.heap.size + 1; omega) _
end Go.Proofs.YtcbgngkalplafaaGreatDoor
