/- The walk of ScriptSets. -/
import Derived.Test.YtcbgngkalplafaaGreatDoorFG
namespace Go.Proofs.YtcbgngkalplafaaGreatDoor
open Go.RowKit Go.Shelf Lin

theorem take_filter {α : Type} (p : α → Bool) (l : List α) (k : Nat) (h : k < l.length) : (l.take (k + 1)).filter p = (l.take k).filter p ++ if p l[k] = true then [l[k]] else [] := by
  rw [List.take_succ_eq_append_getElem h, List.filter_append]
  congr 1
  simp only [List.filter_cons, List.filter_nil]
theorem keepI (ia ib : List Int) (k : Nat) (h : k < (canI ia).length) : ((canI ia).take (k + 1)).filter (fun n => !hasB n (canI ib)) = ((canI ia).take k).filter (fun n => !hasB n (canI ib)) ++ if hasB (canI ia)[k] (canI ib) = true then [] else [(canI ia)[k]] := by
  rw [take_filter _ _ _ h]
  cases hasB (canI ia)[k] (canI ib) <;> rfl
theorem keepN (l m : List ByteArray) (k : Nat) (h : k < l.length) : (l.take (k + 1)).filter (fun n => !hasB n m) = (l.take k).filter (fun n => !hasB n m) ++ if hasB l[k] m = true then [] else [l[k]] := by
  rw [take_filter _ _ _ h]
  cases hasB l[k] m <;> rfl
theorem keep_len {α : Type} (p : α → Bool) (l : List α) (k : Nat) : ((l.take k).filter p).length ≤ l.length := Nat.le_trans (List.length_filter_le _ _) (by rw [List.length_take]; omega)
theorem ok_min (ia ib : List Int) (la lb : List ByteArray) (h : Ok 30 ia la) : Ok 30 (minI ia ib) (minN ia ib la lb) := by
  rw [← minN_eq]
  exact ⟨Nat.le_trans (List.length_filter_le _ _) (Nat.le_trans (canI_length ia) h.i), Nat.le_trans (List.length_filter_le _ _) (Nat.le_trans (canS_length ia la) h.l), fun x hx => canS_size ia la x (List.mem_filter.1 hx).1⟩

set_option maxRecDepth 100000 in
set_option maxHeartbeats 8000000 in
theorem sets_any (ia ib ic : List Int) (la lb lc : List ByteArray) (sa : ∀ x ∈ la, x.size ≤ 9223372036854775807) (sb : ∀ x ∈ lb, x.size ≤ 9223372036854775807) (sc : ∀ x ∈ lc, x.size ≤ 9223372036854775807) (va vb vc : Value) (w : World) (hT : TabOk w) (ha : RdW w va ia la) (hb : RdW w vb ib lb) (hc : RdW w vc ic lc) :
    Calls Tryz.prog 4 #[va, vb, vc] w fun e w' => e = .returned (.bool true) ∧ Below w.heap.size w w' := by
  have hu29 := Tryz.underlying29
  obtain ⟨ua, xa, rfl, hua, hxa⟩ := ha
  obtain ⟨ub, xb, rfl, hub, hxb⟩ := hb
  obtain ⟨uc, xc, rfl, huc, hxc⟩ := hc
  have HT := Lib.hid hT
  have HUA := Lib.hid hua
  have HUB := Lib.hid hub
  have HUC := Lib.hid huc
  have HXA := Lib.hid hxa
  have HXB := Lib.hid hxb
  have HXC := Lib.hid hxc
  obtain ⟨A1, c1, rfl, hl1⟩ := hua.slice
  obtain ⟨A2, c2, rfl, hl2⟩ := hxa.slice
  obtain ⟨A3, c3, rfl, hl3⟩ := hub.slice
  obtain ⟨A4, c4, rfl, hl4⟩ := hxb.slice
  obtain ⟨A5, c5, rfl, hl5⟩ := huc.slice
  obtain ⟨A6, c6, rfl, hl6⟩ := hxc.slice
  clear hua hxa hub hxb huc hxc hT
  have hbl : Below w.heap.size w (((w.alloc (.cells #[.slice A1 ia.length c1, .slice A2 la.length c2] 29)).alloc (.cells #[.slice A3 ib.length c3, .slice A4 lb.length c4] 29)).alloc (.cells #[.slice A5 ic.length c5, .slice A6 lc.length c6] 29)) := (((Below.refl w.heap.size w).alloc (Nat.le_refl _) _).alloc (by rw [sizeA]; omega) _).alloc (by rw [sizeA, sizeA]; omega) _
  have H0 := Lib.hid (show B3 w (.slice A1 ia.length c1) (.slice A2 la.length c2) (.slice A3 ib.length c3) (.slice A4 lb.length c4) (.slice A5 ic.length c5) (.slice A6 lc.length c6) ia ib ic la lb lc (((w.alloc (.cells #[.slice A1 ia.length c1, .slice A2 la.length c2] 29)).alloc (.cells #[.slice A3 ib.length c3, .slice A4 lb.length c4] 29)).alloc (.cells #[.slice A5 ic.length c5, .slice A6 lc.length c6] 29)) from
    ⟨by rw [Below.heap_alloc _ _ _ (by rw [sizeA, sizeA]; omega), Below.heap_alloc _ _ _ (by rw [sizeA]; omega)]; exact heapA _ _,
     by rw [Below.heap_alloc _ _ _ (by rw [sizeA, sizeA]; omega)]; exact heapA2 _ _ _,
     by
        have := heapA ((w.alloc (.cells #[.slice A1 ia.length c1, .slice A2 la.length c2] 29)).alloc (.cells #[.slice A3 ib.length c3, .slice A4 lb.length c4] 29)) (.cells #[.slice A5 ic.length c5, .slice A6 lc.length c6] 29)
        rwa [sizeA, sizeA] at this, hbl, by rw [sizeA, sizeA, sizeA]; omega, HUA.out, HXA.out, HUB.out, HXB.out, HUC.out, HXC.out⟩)
  clear hbl HUA HUB HUC HXA HXB HXC
  have SA := Lib.hid sa
  have SB := Lib.hid sb
  have SC := Lib.hid sc
  clear sa sb sc
  go_enter Tryz.func4, Tryz.ntmps4
  go_wp2_with fail
  generalize (((w.alloc (.cells #[.slice A1 ia.length c1, .slice A2 la.length c2] 29)).alloc (.cells #[.slice A3 ib.length c3, .slice A4 lb.length c4] 29)).alloc (.cells #[.slice A5 ic.length c5, .slice A6 lc.length c6] 29)) = W0 at H0 ⊢
  refine (known_any W0 (HT.out.below H0.out.bl)).mono ?_
  rintro e w1 ⟨rfl, hb1⟩
  have H1 := Lib.hid (H0.out.below hb1)
  have a0 := H1.out.a.c0
  have a1 := H1.out.a.c1
  have HFA := Lib.hid (few_any ia la SA.out _ _ w1 H1.out.a.ru H1.out.a.rx)
  clear H0 hb1
  go_wp2_with fail
  refine HFA.out.mono ?_
  rintro e w2 ⟨rfl, hb2⟩
  have H2 := Lib.hid (H1.out.below hb2)
  clear a0 a1 H1 hb2 HFA
  rcases hfa : fewB ia la with _ | _
  · clear hfa
    go_wp2_with fail
    refine (known_any w2 (HT.out.below H2.out.bl)).mono ?_
    rintro e w3 ⟨rfl, hb3⟩
    have hbf := (H2.out.below hb3).bl
    go_wp2_with fail
    go_ret
    exact ⟨rfl, hbf⟩
  have hla := fewB_len hfa
  have b0 := H2.out.b.c0
  have b1 := H2.out.b.c1
  have HFB := Lib.hid (few_any ib lb SB.out _ _ w2 H2.out.b.ru H2.out.b.rx)
  clear hfa
  go_wp2_with fail
  refine HFB.out.mono ?_
  rintro e w3 ⟨rfl, hb3⟩
  have H3 := Lib.hid (H2.out.below hb3)
  clear b0 b1 H2 hb3 HFB
  rcases hfb : fewB ib lb with _ | _
  · clear hfb
    go_wp2_with fail
    refine (known_any w3 (HT.out.below H3.out.bl)).mono ?_
    rintro e w4 ⟨rfl, hb4⟩
    have hbf := (H3.out.below hb4).bl
    go_wp2_with fail
    go_ret
    exact ⟨rfl, hbf⟩
  have hlb := fewB_len hfb
  have b0 := H3.out.c.c0
  have b1 := H3.out.c.c1
  have HFC := Lib.hid (few_any ic lc SC.out _ _ w3 H3.out.c.ru H3.out.c.rx)
  clear hfb
  go_wp2_with fail
  refine HFC.out.mono ?_
  rintro e w4 ⟨rfl, hb4⟩
  have H4 := Lib.hid (H3.out.below hb4)
  clear b0 b1 H3 hb4 HFC
  rcases hfc : fewB ic lc with _ | _
  · clear hfc
    go_wp2_with fail
    refine (known_any w4 (HT.out.below H4.out.bl)).mono ?_
    rintro e w5 ⟨rfl, hb5⟩
    have hbf := (H4.out.below hb5).bl
    go_wp2_with fail
    go_ret
    exact ⟨rfl, hbf⟩
  have hlc := fewB_len hfc
  clear hfc
  go_wp2_with fail
  have ka : Ok 30 ia la := ⟨hla.1, hla.2, SA.out⟩
  have kb : Ok 30 ib lb := ⟨hlb.1, hlb.2, SB.out⟩
  have kc : Ok 30 ic lc := ⟨hlc.1, hlc.2, SC.out⟩
  have KA := Lib.hid ka
  have KB := Lib.hid kb
  have KC := Lib.hid kc
  clear ka kb kc hl1 hl2 hl3 hl4 hl5 hl6
  refine region3 (ga := w.heap.size) (gb := w.heap.size + 1) rfl rfl rfl H4.out.a H4.out.b KA.out KB.out (HT.out.below H4.out.bl) ?_
  intro u5 w5 gx gy A7 A9 A8 A10 n7 n9 n8 n10 c7 c9 c8 c10 hb5 hu7 hu8 hX hY
  simp only [laid, D3, List.cons_append, List.nil_append, List.foldl_cons, List.foldl_nil, Act.put, List.setIfInBounds_toArray, List.set_cons_zero, List.set_cons_succ]
  rw [hu7, hu8]
  obtain rfl := hX.ru.len
  obtain rfl := hX.rx.len
  obtain rfl := hY.ru.len
  obtain rfl := hY.rx.len
  have H5 := Lib.hid (H4.out.below hb5)
  have HX5 := Lib.hid hX
  have HY5 := Lib.hid hY
  clear hb5 hu7 hu8 hX hY H4
  go_wp2_with fail
  refine sum_region _ _ ia ib la lb rfl w.heap.size (w.heap.size + 1) rfl rfl H5.out.a H5.out.b (by omega) (by omega) SA.out SB.out (HT.out.below H5.out.bl) ?_
  intro u6 w6 gs n11 c11 n12 c12 A11 A12 hb6 hu9 hs
  simp only [laid, D4, List.cons_append, List.nil_append, List.foldl_cons, List.foldl_nil, Act.put, List.setIfInBounds_toArray, List.set_cons_zero, List.set_cons_succ]
  rw [hu9]
  have H6 := Lib.hid (H5.out.below hb6)
  have HX6 := Lib.hid (HX5.out.below hb6)
  have HY6 := Lib.hid (HY5.out.below hb6)
  have HS6 := Lib.hid hs
  clear hu9 hs hb6 H5 HX5 HY5 hla hlb hlc
  have hcI : (canI ia).length ≤ 30 := Nat.le_trans (canI_length ia) KA.out.i
  have hcS : (canS ia la).length ≤ 30 := Nat.le_trans (canS_length ia la) KA.out.l
  go_wp2_with fail
  go_loopw [11] (fun a wr => ∃ (k : Nat) (V : Value), a = .int .i64 k ∧ k ≤ (canI ia).length ∧ wr.heap[w6.heap.size]? = some (.cells #[V, .slice none 0 0] 29) ∧ wr.ownsRow (w6.heap.size + 1) 3 1 V (((canI ia).take k).filter fun n => !hasB n (canI ib)).length ((((canI ia).take k).filter fun n => !hasB n (canI ib)).map (Value.int .i64)) ∧ Below w6.heap.size w6 wr ∧ w6.heap.size + 1 ≤ wr.heap.size) (fun a _ => (canI ia).length - (intOf a).toNat)
  case atStart => exact ⟨0, _, rfl, by omega, heapA _ _, World.ownsRow_nil _ _ _ _, (Below.refl _ _).alloc (Nat.le_refl _) _, by rw [sizeA]; omega⟩
  obtain ⟨k, V, rfl, hk, hR, hown, hb, hsz⟩ := hrel
  have HXr := Lib.hid (HX6.out.below hb)
  have HYr := Lib.hid (HY6.out.below hb)
  have HR := Lib.hid hR
  have HO := Lib.hid hown
  have HCL := Lib.hid (canI_length ia)
  have hcx := HXr.out.c0
  clear hR hown
  by_cases h1 : k < (canI ia).length
  · have h1' : (k : Int) < ((canI ia).length : Int) := by omega
    obtain ⟨-, -, bk, off, rfl, hxj⟩ := HXr.out.ru.at (by omega)
    have HXJ := Lib.hid (hxj k h1)
    have HK := Lib.hid (keepI ia ib k h1)
    have HLN := Lib.hid (keep_len (fun n => !hasB n (canI ib)) (canI ia) k)
    clear hxj
    go_wp2_with fail
    clear hcx
    cases ht : hasB (canI ia)[k] (canI ib) with
    | true =>
      rw [ht, if_pos rfl, List.append_nil] at HK
      refine region9 (k := k) (t := true) rfl rfl rfl rfl HXr.out HYr.out h1 HXJ.out (fun u w h => by have := has_any _ (canI ia)[k] u w h; rwa [ht] at this) ?_
      intro u1 w8 hb8 hu69
      simp only [laid, D9, List.cons_append, List.nil_append, List.foldl_cons, List.foldl_nil, Act.put, List.setIfInBounds_toArray, List.set_cons_zero, List.set_cons_succ]
      rw [hu69]
      clear hu69 ht
      have hR8 := (hb8.block w6.heap.size (by omega)).trans HR.out
      have hO8 := own_below HO.out hb8
      have hB8 := hb.trans (below_of hb8 (by omega))
      have hs8 := Nat.le_trans hsz hb8.size
      go_wp2_with fail
      go_round
      case rel =>
        refine ⟨k + 1, V, by go_num, by omega, hR8, ?_, hB8, hs8⟩
        rw [HK.out]; exact hO8
      case measure => simp [intOf]; omega
    | false =>
      rw [ht, if_neg (by decide)] at HK
      refine region9 (k := k) (t := false) rfl rfl rfl rfl HXr.out HYr.out h1 HXJ.out (fun u w h => by have := has_any _ (canI ia)[k] u w h; rwa [ht] at this) ?_
      intro u1 w8 hb8 hu69
      simp only [laid, D9, List.cons_append, List.nil_append, List.foldl_cons, List.foldl_nil, Act.put, List.setIfInBounds_toArray, List.set_cons_zero, List.set_cons_succ]
      rw [hu69]
      clear hu69 ht
      have hR8 := Lib.hid ((hb8.block w6.heap.size (by omega)).trans HR.out)
      have hO8 := Lib.hid (own_below HO.out hb8)
      have hB8 := hb.trans (below_of hb8 (by omega))
      have hs8 := Nat.le_trans hsz hb8.size
      have HX8 := Lib.hid (HXr.out.below hb8)
      have HXJ8 := Lib.hid ((hb8.cell (p := ⟨bk, off + k, none⟩) (World.block_lt_of_cell? _ _ HXJ.out)).trans HXJ.out)
      go_wp2_with fail
      refine region10 (k := k) (n0 := w6.heap.size + 1) (base := w6.heap.size + 1) (gr := w6.heap.size) rfl rfl rfl rfl HX8.out hR8.out h1 HXJ8.out hs8 (by omega) hs8 hO8.out (by have := HLN.out; have := HCL.out; have := KA.out.i; omega) ?_
      intro u2 w9 V9 hO9 hR9 hrest hbl
      simp only [laid, D10, List.cons_append, List.nil_append, List.foldl_cons, List.foldl_nil, Act.put, List.setIfInBounds_toArray, List.set_cons_zero, List.set_cons_succ]
      have hB9 := hB8.trans hbl
      have hs9 := Nat.le_trans hs8 hrest.1
      clear hrest hbl
      have HO9 := Lib.hid hO9
      have HR9 := Lib.hid hR9
      clear hO9 hR9
      go_wp2_with fail
      go_round
      case rel =>
        refine ⟨k + 1, V9, by go_num, by omega, HR9.out, ?_, hB9, hs9⟩
        rw [HK.out, List.length_append, List.map_append]; exact HO9.out
      case measure => simp [intOf]; omega
  have h1' : ¬ (k : Int) < ((canI ia).length : Int) := by omega
  obtain rfl : k = (canI ia).length := by omega
  rw [List.take_length] at HO
  have HO1 := Lib.hid (show wr.ownsRow (w6.heap.size + 1) 3 1 V (minI ia ib).length ((minI ia ib).map (Value.int .i64)) from HO.out)
  clear HO
  go_wp2_with fail
  clear hcx
  obtain ⟨wo, rfl⟩ : ∃ wo : World, wo = wr := ⟨_, rfl⟩
  go_loopw [12] (fun a wr => ∃ (k : Nat) (V2 : Value), a = .int .i64 k ∧ k ≤ (canS ia la).length ∧ wr.heap[w6.heap.size]? = some (.cells #[V, V2] 29) ∧ wr.ownsRow wo.heap.size 47 1 V2 (((canS ia la).take k).filter fun n => !hasB n (canS ib lb)).length ((((canS ia la).take k).filter fun n => !hasB n (canS ib lb)).map Value.string) ∧ Below w6.heap.size w6 wr ∧ Rest w6.heap.size wo.heap.size wo wr) (fun a _ => (canS ia la).length - (intOf a).toNat)
  case atStart => exact ⟨0, _, rfl, by omega, HR.out, World.ownsRow_nil _ _ _ _, hb, Rest.refl _ _ _⟩
  obtain ⟨k, V2, rfl, hk, hR, hown, hbq, hrest⟩ := hrel
  have HXq := Lib.hid (HX6.out.below hbq)
  have HYq := Lib.hid (HY6.out.below hbq)
  have HRq := Lib.hid hR
  have HOq := Lib.hid hown
  have HRE := Lib.hid hrest
  have hsq := hrest.1
  have HCS := Lib.hid (canS_length ia la)
  have hcx := HXq.out.c1
  clear hR hown hrest
  by_cases h1 : k < (canS ia la).length
  · have h1'' : (k : Int) < ((canS ia la).length : Int) := by omega
    obtain ⟨-, -, bk, off, rfl, hxj⟩ := HXq.out.rx.at (by omega)
    have HXJ := Lib.hid (hxj k h1)
    have HK := Lib.hid (keepN (canS ia la) (canS ib lb) k h1)
    have HLN := Lib.hid (keep_len (fun n => !hasB n (canS ib lb)) (canS ia la) k)
    clear hxj
    go_wp2_with fail
    clear hcx
    cases ht : hasB (canS ia la)[k] (canS ib lb) with
    | true =>
      rw [ht, if_pos rfl, List.append_nil] at HK
      refine region14 (k := k) (t := true) rfl rfl rfl rfl HXq.out HYq.out h1 HXJ.out (fun u w h => by have := listed_any _ (canS ia la)[k] u w h; rwa [ht] at this) ?_
      intro u1 w8 hb8 hu95
      simp only [laid, D14, List.cons_append, List.nil_append, List.foldl_cons, List.foldl_nil, Act.put, List.setIfInBounds_toArray, List.set_cons_zero, List.set_cons_succ]
      rw [hu95]
      clear hu95 ht
      have hR8 := (hb8.block w6.heap.size (by omega)).trans HRq.out
      have hO8 := own_below HOq.out hb8
      have hB8 := hbq.trans (below_of hb8 (by omega))
      have hre8 := HRE.out.below (below_of hb8 hsq)
      go_wp2_with fail
      go_round
      case rel =>
        refine ⟨k + 1, V2, by go_num, by omega, hR8, ?_, hB8, hre8⟩
        rw [HK.out]; exact hO8
      case measure => simp [intOf]; omega
    | false =>
      rw [ht, if_neg (by decide)] at HK
      refine region14 (k := k) (t := false) rfl rfl rfl rfl HXq.out HYq.out h1 HXJ.out (fun u w h => by have := listed_any _ (canS ia la)[k] u w h; rwa [ht] at this) ?_
      intro u1 w8 hb8 hu95
      simp only [laid, D14, List.cons_append, List.nil_append, List.foldl_cons, List.foldl_nil, Act.put, List.setIfInBounds_toArray, List.set_cons_zero, List.set_cons_succ]
      rw [hu95]
      clear hu95 ht
      have hR8 := Lib.hid ((hb8.block w6.heap.size (by omega)).trans HRq.out)
      have hO8 := Lib.hid (own_below HOq.out hb8)
      have hB8 := hbq.trans (below_of hb8 (by omega))
      have hre8 := Lib.hid (HRE.out.below (below_of hb8 hsq))
      have hs8 := Nat.le_trans hsq hb8.size
      have HX8 := Lib.hid (HXq.out.below hb8)
      have HXJ8 := Lib.hid ((hb8.cell (p := ⟨bk, off + k, none⟩) (World.block_lt_of_cell? _ _ HXJ.out)).trans HXJ.out)
      go_wp2_with fail
      refine region15 (k := k) (n0 := wo.heap.size) (base := wo.heap.size) (gr := w6.heap.size) rfl rfl rfl rfl HX8.out hR8.out h1 HXJ8.out hs8 (by omega) hs8 hO8.out (by have := HLN.out; have := HCS.out; have := KA.out.l; omega) ?_
      intro u2 w9 V9 hO9 hR9 hrest hbl
      simp only [laid, D15, List.cons_append, List.nil_append, List.foldl_cons, List.foldl_nil, Act.put, List.setIfInBounds_toArray, List.set_cons_zero, List.set_cons_succ]
      have hB9 := hB8.trans hbl
      have hre9 : Rest w6.heap.size wo.heap.size wo w9 := ⟨Nat.le_trans hre8.out.1 hrest.1, fun i hi hne => (hrest.2 i hi hne).trans (hre8.out.2 i hi hne)⟩
      clear hrest hbl
      have HO9 := Lib.hid hO9
      have HR9 := Lib.hid hR9
      clear hO9 hR9
      go_wp2_with fail
      go_round
      case rel =>
        refine ⟨k + 1, V9, by go_num, by omega, HR9.out, ?_, hB9, hre9⟩
        rw [HK.out, List.length_append, List.map_append]; exact HO9.out
      case measure => simp [intOf]; omega
  have h1'' : ¬ (k : Int) < ((canS ia la).length : Int) := by omega
  obtain rfl : k = (canS ia la).length := by omega
  rw [List.take_length, minN_eq] at HOq
  have HV1 := HRE.out.owns HO1.out (by omega)
  have HRX := Lib.hid (show BxV wr w6.heap.size V V2 (minI ia ib) (minN ia ib la lb) from ⟨HRq.out, Rd.of_own (e := 3) HV1, rd_names HOq.out⟩)
  have H9 := Lib.hid (H6.out.below hbq)
  have HS9 := Lib.hid (HS6.out.below hbq)
  clear HV1 HO1 HRE HOq HRq H6 HS6 HX6 HY6 HR HXr HYr HCL HCS
  go_wp2_with fail
  clear hcx
  refine region16 (ga := w.heap.size) (gb := w.heap.size + 1) rfl rfl rfl H9.out.a H9.out.b KA.out KB.out (HT.out.below H9.out.bl) ?_
  intro u10 w10 gp gm B1 B3' B2 B4 m1 m3 m2 m4 e1 e3 e2 e4 hb10 hu13 hu14 hP hM
  simp only [laid, D16, List.cons_append, List.nil_append, List.foldl_cons, List.foldl_nil, Act.put, List.setIfInBounds_toArray, List.set_cons_zero, List.set_cons_succ]
  rw [hu13, hu14]
  have H10 := Lib.hid (H9.out.below hb10)
  have HX10 := Lib.hid (HXq.out.below hb10)
  have HY10 := Lib.hid (HYq.out.below hb10)
  have HS10 := Lib.hid (HS9.out.below hb10)
  have HR10 := Lib.hid (HRX.out.below hb10)
  have HP10 := Lib.hid hP
  have HM10 := Lib.hid hM
  clear hb10 hu13 hu14 hP hM H9 HXq HYq HS9 HRX
  go_wp2_with fail
  refine region17 (ga := w.heap.size) (gb := w.heap.size + 1) (gc := w.heap.size + 2) (gr := w6.heap.size) rfl rfl rfl rfl rfl rfl rfl rfl H10.out.a H10.out.b H10.out.c HP10.out HM10.out HS10.out HR10.out KA.out KB.out KC.out (ok_min ia ib la lb KA.out) (HT.out.below H10.out.bl) ?_
  intro u11 w11 hb11 hu161
  simp only [laid, D17, List.cons_append, List.nil_append, List.foldl_cons, List.foldl_nil, Act.put, List.setIfInBounds_toArray, List.set_cons_zero, List.set_cons_succ]
  rw [hu161]
  have H11 := Lib.hid (H10.out.below hb11)
  have HX11 := Lib.hid (HX10.out.below hb11)
  have HY11 := Lib.hid (HY10.out.below hb11)
  clear hb11 hu161 H10 HX10 HY10 HS10 HR10 HP10 HM10
  have x0 := HX11.out.c0
  have x1 := HX11.out.c1
  have y0 := HY11.out.c0
  have y1 := HY11.out.c1
  go_wp2_with fail
  have HC12 := Lib.hid (sameNumbers_any _ _ _ _ w11 HX11.out.ru HY11.out.ru)
  refine HC12.out.mono ?_
  rintro e w12 ⟨rfl, hb12⟩
  have H12 := Lib.hid (H11.out.below hb12)
  have HX12 := Lib.hid (HX11.out.below hb12)
  have HY12 := Lib.hid (HY11.out.below hb12)
  clear x0 x1 y0 y1 hb12 H11 HX11 HY11 HC12
  have z1 := HX12.out.c1
  have z2 := HY12.out.c1
  cases hd1 : decide (canI ia = canI ib) with
  | true =>
    have HD := Lib.hid hd1
    clear hd1
    go_wp2_with fail
    have HC13 := Lib.hid (sameNames_any _ _ _ _ w12 HX12.out.rx HY12.out.rx)
    refine HC13.out.mono ?_
    rintro e w13 ⟨rfl, hb13⟩
    have H13 := Lib.hid (H12.out.below hb13)
    have HE := Lib.hid (show decide (canS ia la = canS ib lb) = eqB ia ib la lb by unfold eqB; rw [HD.out]; rfl)
    clear z1 z2 hb13 H12 HX12 HY12 HC13 HD
    rw [HE.out]
    go_wp2_with fail
    refine region20 (ga := w.heap.size) (gb := w.heap.size + 1) rfl rfl rfl rfl H13.out.a H13.out.b KA.out KB.out (ok_min ia ia la la KA.out) (HT.out.below H13.out.bl) ?_
    intro u14 w14 hb14 hu6
    simp only [laid, D20, List.cons_append, List.nil_append, List.foldl_cons, List.foldl_nil, Act.put, List.setIfInBounds_toArray, List.set_cons_zero, List.set_cons_succ]
    rw [hu6]
    have hfin := (H13.out.below hb14).bl
    clear hu6 hb14 H13 HE
    go_wp2_with fail
    go_ret
    exact ⟨rfl, hfin⟩
  | false =>
    have HE := Lib.hid (show false = eqB ia ib la lb by unfold eqB; rw [hd1]; rfl)
    clear hd1 z1 z2
    go_wp2_with fail
    refine region20 (ga := w.heap.size) (gb := w.heap.size + 1) rfl rfl rfl (by rw [← HE.out]; rfl) H12.out.a H12.out.b KA.out KB.out (ok_min ia ia la la KA.out) (HT.out.below H12.out.bl) ?_
    intro u14 w14 hb14 hu6
    simp only [laid, D20, List.cons_append, List.nil_append, List.foldl_cons, List.foldl_nil, Act.put, List.setIfInBounds_toArray, List.set_cons_zero, List.set_cons_succ]
    rw [hu6]
    have hfin := (H12.out.below hb14).bl
    clear hu6 hb14 H12 HE
    go_wp2_with fail
    go_ret
    exact ⟨rfl, hfin⟩
end Go.Proofs.YtcbgngkalplafaaGreatDoor
