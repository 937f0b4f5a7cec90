/- Without.canonical. -/
import Derived.Test.YtcbgngkalplafaaGreatDoorC4
namespace Go.Proofs.YtcbgngkalplafaaGreatDoor
open Go.RowKit Go.Shelf Lin

def posK (is : List Int) (k : Nat) : List Int := (is.take k).filter fun n => decide (1 ≤ n)
def canI (is : List Int) : List Int := Lib.compact (sortedI (is.filter fun n => decide (1 ≤ n)))
theorem posK_succ (is : List Int) (k : Nat) (h : k < is.length) : posK is (k + 1) = posK is k ++ if 1 ≤ is[k] then [is[k]] else [] := by
  unfold posK
  rw [List.take_succ_eq_append_getElem h, List.filter_append]
  congr 1
  by_cases e : 1 ≤ is[k] <;> simp [e]
theorem posK_length (is : List Int) (k : Nat) : (posK is k).length ≤ k := Nat.le_trans (List.length_filter_le _ _) (by simp; omega)
theorem posK_all (is : List Int) : posK is is.length = is.filter fun n => decide (1 ≤ n) := by unfold posK; rw [List.take_length]
theorem canI_length (is : List Int) : (canI is).length ≤ is.length := by
  have h1 := Lib.compact_length_le (sortedI (is.filter fun n => decide (1 ≤ n)))
  rw [sortedI_length] at h1
  exact Nat.le_trans h1 (List.length_filter_le _ _)
theorem canI_is (is : List Int) : IsSort (fun a b : Int => a < b) (is.filter fun n => decide (1 ≤ n)) (canI is) := sort_ints _

/-- The name n, if it is a process's and lies within none of R. -/
def pickB (R : List ByteArray) (n : ByteArray) : Bool := okN n && !R.any (withinB n)
def pickN (R : List ByteArray) (n : ByteArray) : Option Nm := if h : validB n = true ∧ n.size ≤ 9223372036854775807 then (if pickB R n = true then some ⟨n, h⟩ else none) else none
def goodL (R ls : List ByteArray) : List Nm := ls.filterMap (pickN R)
def goodK (R ls : List ByteArray) (k : Nat) : List Nm := (ls.take k).filterMap (pickN R)
theorem goodK_succ (R ls : List ByteArray) (k : Nat) (h : k < ls.length) : goodK R ls (k + 1) = goodK R ls k ++ (pickN R ls[k]).toList := by
  unfold goodK
  rw [List.take_succ_eq_append_getElem h, List.filterMap_append]
  cases h2 : pickN R ls[k] <;> simp [h2]
theorem goodK_length (R ls : List ByteArray) (k : Nat) : (goodK R ls k).length ≤ k := Nat.le_trans (List.length_filterMap_le _ _) (by simp; omega)
theorem goodK_all (R ls : List ByteArray) : goodK R ls ls.length = goodL R ls := by unfold goodK goodL; rw [List.take_length]
theorem pickN_no {R : List ByteArray} {n : ByteArray} (h : pickB R n = false) : pickN R n = none := by
  unfold pickN
  split
  · rw [h]; rfl
  · rfl
theorem pickN_yes {R : List ByteArray} {n : ByteArray} (h : pickB R n = true) (hn : n.size ≤ 9223372036854775807) : ∃ x : Nm, x.1 = n ∧ pickN R n = some x := by
  have hv : validB n = true := by
    simp only [pickB, okN, Bool.and_eq_true] at h
    exact h.1.2
  refine ⟨⟨n, hv, hn⟩, rfl, ?_⟩
  unfold pickN
  rw [dif_pos ⟨hv, hn⟩, if_pos h]
def sortN (l : List Nm) : List Nm := Lib.compact (sortedN l)
def canN (is : List Int) (ls : List ByteArray) : List Nm := topsL (sortN (goodL (rootsL (canI is)) ls))
theorem sortN_eq {l S : List Nm} (h : IsSort nlt l S) : S = sortN l := IsSort.unique slo_nm h (sortN_is l) fun _ => Iff.rfl

theorem rd_names {w : World} {B : Nat} {v : Value} {l : List ByteArray} (h : w.ownsRow B 47 1 v l.length (l.map Value.string)) : Rd Value.string w v l := Rd.of_own (e := 47) h
theorem rd_nms {w : World} {B : Nat} {v : Value} {l : List Nm} (h : w.ownsRow B 47 1 v l.length (l.map encN)) : Rd Value.string w v (l.map (·.1)) := by
  rw [show l.length = (l.map (·.1)).length by rw [List.length_map]] at h
  exact Rd.of_own (e := 47) (by rw [List.map_map]; exact h)

/-- What canonical hands back: two slices of its own. -/
def CanPost (B : Nat) (is : List Int) (ls : List ByteArray) (w : World) (e : Ending) (w' : World) : Prop :=
  ∃ v y, e = .returned (.agg #[v, y]) ∧ w'.ownsRow B 3 1 v (canI is).length ((canI is).map (Value.int .i64)) ∧ w'.ownsRow B 47 1 y (canN is ls).length ((canN is ls).map encN) ∧ Below B w w'

theorem rootsL_size (is : List Int) : ∀ x ∈ rootsL is, x.size ≤ 9223372036854775807 := by
  intro x hx
  obtain ⟨i, hi, rfl⟩ := List.mem_map.1 hx
  have h := (List.mem_filter.1 hi).2
  simp only [rootOk, Bool.and_eq_true, decide_eq_true_eq] at h
  have := rootN_size i (by omega) (by omega)
  omega

set_option maxRecDepth 100000 in
set_option maxHeartbeats 8000000 in
theorem canonical_any (is : List Int) (ls : List ByteArray) (hi1 : is.length ≤ 1000000) (hl1 : ls.length ≤ 1000000) (hs : ∀ x ∈ ls, x.size ≤ 9223372036854775807) (u x : Value) (w : World) (hT : TabOk w)
    (hu : Rd (Value.int .i64) w u is) (hx : Rd Value.string w x ls) :
    Calls Tryz.prog 32 #[.agg #[u, x]] w (CanPost w.heap.size is ls w) := by
  have hu29 := Tryz.underlying29
  obtain ⟨i3, j1, j2, j3, j4⟩ := info_parts Tryz_info3
  obtain ⟨i0, hi, hz0, hz1, hz2⟩ := info_parts Tryz_info47
  have HU := Lib.hid hu
  have HX := Lib.hid hx
  have HT := Lib.hid hT
  have HS := Lib.hid hs
  obtain ⟨A, c, rfl, hlen⟩ := hu.slice
  obtain ⟨A', c', rfl, hlen'⟩ := hx.slice
  clear hu hx hT hs
  have hb0 := (((Below.refl w.heap.size w).alloc (Nat.le_refl _) (.cells #[.slice A is.length c, .slice A' ls.length c'] 29)).alloc (by rw [sizeA]; omega) (.cells #[.slice none 0 0, .slice none 0 0] 29)).alloc (by rw [sizeA, sizeA]; omega) (.cells #[.slice none 0 0, .slice none 0 0] 29)
  have hf0 : Fr w.heap.size (.slice A is.length c) (.slice A' ls.length c') (.slice none 0 0) (.slice none 0 0) (((w.alloc (.cells #[.slice A is.length c, .slice A' ls.length c'] 29)).alloc (.cells #[.slice none 0 0, .slice none 0 0] 29)).alloc (.cells #[.slice none 0 0, .slice none 0 0] 29)) := by
    refine ⟨?_, ?_, ?_⟩
    · rw [Below.heap_alloc _ _ _ (by rw [sizeA, sizeA]; omega), Below.heap_alloc _ _ _ (by rw [sizeA]; omega)]; exact heapA _ _
    · rw [Below.heap_alloc _ _ _ (by rw [sizeA, sizeA]; omega)]
      have := heapA (w.alloc (.cells #[.slice A is.length c, .slice A' ls.length c'] 29)) (.cells #[.slice none 0 0, .slice none 0 0] 29)
      rwa [sizeA] at this
    · have := heapA ((w.alloc (.cells #[.slice A is.length c, .slice A' ls.length c'] 29)).alloc (.cells #[.slice none 0 0, .slice none 0 0] 29)) (.cells #[.slice none 0 0, .slice none 0 0] 29)
      rwa [sizeA, sizeA] at this
  have hsz0 : (((w.alloc (.cells #[.slice A is.length c, .slice A' ls.length c'] 29)).alloc (.cells #[.slice none 0 0, .slice none 0 0] 29)).alloc (.cells #[.slice none 0 0, .slice none 0 0] 29)).heap.size = w.heap.size + 3 := by rw [sizeA, sizeA, sizeA]
  go_enter Tryz.func32, Tryz.ntmps32
  go_wp2_with fail
  generalize (((w.alloc (.cells #[.slice A is.length c, .slice A' ls.length c'] 29)).alloc (.cells #[.slice none 0 0, .slice none 0 0] 29)).alloc (.cells #[.slice none 0 0, .slice none 0 0] 29)) = w0 at hb0 hf0 hsz0 ⊢
  go_loopw [12] (fun a wr => ∃ (k : Nat) (v : Value), a = .int .i64 k ∧ k ≤ is.length ∧ Fr w.heap.size (.slice A is.length c) (.slice A' ls.length c') v (.slice none 0 0) wr ∧ wr.ownsRow (w.heap.size + 3) 3 1 v (posK is k).length ((posK is k).map (Value.int .i64)) ∧ Below w.heap.size w wr ∧ w.heap.size + 3 ≤ wr.heap.size) (fun a _ => is.length - (intOf a).toNat)
  case atStart => exact ⟨0, _, rfl, by omega, hf0, World.ownsRow_nil _ _ _ _, hb0, by omega⟩
  case round =>
    obtain ⟨k, v, rfl, hk, hf, hown, hb, hsz⟩ := hrel
    obtain ⟨A4, c4, rfl⟩ := own_slice' hown
    have HOW := Lib.hid hown
    have HF := Lib.hid hf
    have hcl := cell_of_heap hf.2.2 0 _ rfl
    have hfz := frozen_of hf.2.2 0
    clear hown hf hb0 hf0 hsz0
    by_cases h1 : k < is.length
    · have h1' : (k : Int) < (is.length : Int) := by omega
      obtain ⟨-, -, b, off, rfl, hx⟩ := (HU.out.below hb).at (by omega)
      have hx := hx k h1
      have HP := Lib.hid (posK_succ is k h1)
      have HL := Lib.hid (posK_length is k)
      by_cases h2 : 1 ≤ is[k]
      · have HK := Lib.hid (show posK is (k + 1) = posK is k ++ [is[k]] by rw [HP.out, if_pos h2])
        go_wp2_with (at_builtin; refine wpList_append_own _ rfl _ _ 26 rfl (w.heap.size + 3) 3 i3 (.int .i64 0) 1 8 Tryz.underlying26 j1 j2 j3 j4 rfl (by decide) _ _ _ rfl (HOW.out.alloc _) ⟨wr.heap.size, 0, none⟩ 1 1 [.int .i64 is[k]] rfl rfl (cell_one_new _ _ _) (by simp [Value.oneCell']) (by have := HL.out; simp only [maxLen]; omega) (by have := HL.out; omega) (by rw [sizeA]; omega) ?_; intro v' w3 hown' hgrow _; obtain ⟨A5, c5, rfl⟩ := own_slice' hown'; have hb3 := below_append HOW.out hsz hgrow; have hf3 := HF.out.below hb3 (Nat.le_refl _); have hc3 := cell_of_heap hf3.2.2 0 _ rfl; have hz3 := frozen_of hf3.2.2 0)
        go_round
        case rel =>
          refine ⟨k + 1, _, by go_num, by omega, hf3.set0 _, ?_, (hb.trans (below_of hb3 (by omega))).setCell (by show w.heap.size ≤ w.heap.size + 2; omega) _, by have := hb3.size; simp only [World.setCell, Array.size_modify]; omega⟩
          rw [HK.out, List.length_append, List.map_append]; exact ownsRow_setCell_below hown' (by simp) _
        case measure => simp [intOf]; omega
      · have h2' : ¬ (1 : Int) ≤ is[k] := h2
        have HK := Lib.hid (show posK is (k + 1) = posK is k by rw [HP.out, if_neg h2, List.append_nil])
        go_wp2
        go_round
        case rel =>
          refine ⟨k + 1, _, by go_num, by omega, HF.out, ?_, hb, hsz⟩
          rw [HK.out]; exact HOW.out
        case measure => simp [intOf]; omega
    · have h1' : ¬ (k : Int) < (is.length : Int) := by omega
      obtain rfl : k = is.length := by omega
      have HPL := Lib.hid (posK_length is is.length)
      have HSI := Lib.hid (sortInts_any (posK is is.length) (by have := HPL.out; omega) (w.heap.size + 3) _ wr hsz HOW.out)
      go_wp2_with fail
      refine HSI.out.mono ?_
      rintro e w2 ⟨rfl, ho2, hb2⟩
      have hsz2 := hb2.size
      have HF2 := Lib.hid (HF.out.below hb2 (Nat.le_refl _))
      have hc2 := cell_of_heap HF2.out.2.2 0 _ rfl
      rw [← sortedI_length] at ho2
      have HCI := Lib.hid (compactInts_any (sortedI (posK is is.length)) (by rw [sortedI_length]; have := HPL.out; omega) (w.heap.size + 3) _ w2 ho2)
      rw [sortedI_length] at HCI
      clear ho2
      go_wp2_with fail
      refine HCI.out.mono ?_
      rintro e w3 ⟨v3, rfl, ho3, hb3⟩
      have hsz3 := hb3.size
      rw [show Lib.compact (sortedI (posK is is.length)) = canI is by rw [posK_all]; rfl] at ho3
      obtain ⟨A5, c5, rfl⟩ := own_slice' ho3
      have HO3 := Lib.hid ho3
      clear ho3
      have HF3 := Lib.hid (HF2.out.below hb3 (Nat.le_refl _))
      have hc3 := cell_of_heap HF3.out.2.2 0 _ rfl
      have hc31 := cell_of_heap HF3.out.2.2 1 _ rfl
      have hz3 := frozen_of HF3.out.2.2 0
      clear hc2 hcl hfz
      have hF3s : Fr w.heap.size (.slice A is.length c) (.slice A' ls.length c') (.slice A5 (canI is).length c5) (.slice none 0 0) (w3.setCell ⟨w.heap.size + 1 + 1, 0, none⟩ (.slice A5 (canI is).length c5)) := HF3.out.set0 _
      have hO3s : (w3.setCell ⟨w.heap.size + 1 + 1, 0, none⟩ (.slice A5 (canI is).length c5)).ownsRow (w.heap.size + 3) 3 1 (.slice A5 (canI is).length c5) (canI is).length ((canI is).map (Value.int .i64)) := ownsRow_setCell_below HO3.out (by show w.heap.size + 2 < _; omega) _
      have hb3s : Below w.heap.size w (w3.setCell ⟨w.heap.size + 1 + 1, 0, none⟩ (.slice A5 (canI is).length c5)) := ((hb.trans (below_of hb2 (by omega))).trans (below_of hb3 (by omega))).setCell (by show w.heap.size ≤ w.heap.size + 2; omega) _
      have hsz3s : w.heap.size + 3 ≤ (w3.setCell ⟨w.heap.size + 1 + 1, 0, none⟩ (.slice A5 (canI is).length c5)).heap.size := by simp only [World.setCell, Array.size_modify]; omega
      have HFS := Lib.hid hF3s
      have HOS := Lib.hid hO3s
      have HCL := Lib.hid (canI_length is)
      go_wp2_with fail
      generalize (w3.setCell ⟨w.heap.size + 1 + 1, 0, none⟩ (.slice A5 (canI is).length c5)) = w4 at hF3s hO3s HFS HOS hb3s hsz3s ⊢
      clear hF3s hO3s hc3 hc31 hz3
      refine (roots_any (canI is) (by have := HCL.out; omega) _ (.slice none 0 0) ⟨_, _, _, rfl⟩ w4 (HT.out.below hb3s) (Rd.of_own (e := 3) HOS.out)).mono ?_
      rintro e w5 ⟨v5, rfl, ho5, hb5⟩
      obtain ⟨A6, c6, rfl⟩ := own_slice' ho5
      have hb35 := below_then hb3s hb3s.size hb5
      have hsz5 := hb5.size
      have HF5 := Lib.hid (HFS.out.below hb5 hsz3s)
      have HO5 := Lib.hid (owns_below HOS.out hb5)
      have HR5 := Lib.hid (owns_at ho5 hsz3s)
      have hcu := cell_of_heap HF5.out.1 1 _ rfl
      clear ho5
      go_wp2_with fail
      have HRS := Lib.hid (rootsL_size (canI is))
      go_loopw [37] (fun a wr => ∃ (k : Nat) (y : Value), a = .int .i64 k ∧ k ≤ ls.length ∧ Fr w.heap.size (.slice A is.length c) (.slice A' ls.length c') (.slice A5 (canI is).length c5) y wr ∧ wr.ownsRow w5.heap.size 47 1 y (goodK (rootsL (canI is)) ls k).length ((goodK (rootsL (canI is)) ls k).map encN) ∧ Below w.heap.size w wr ∧ Rest (w.heap.size + 2) w5.heap.size w5 wr) (fun a _ => ls.length - (intOf a).toNat)
      case atStart => exact ⟨0, _, rfl, by omega, HF5.out, World.ownsRow_nil _ _ _ _, hb35, Rest.refl _ _ _⟩
      case round =>
        obtain ⟨k, y, rfl, hk, hf, hown, hb, hrest⟩ := hrel
        obtain ⟨A7, c7, rfl⟩ := own_slice' hown
        have HOW := Lib.hid hown
        have HFK := Lib.hid hf
        have HRE := Lib.hid hrest
        have hcl := cell_of_heap hf.2.2 1 _ rfl
        have hsz := hrest.1
        have HRR := Lib.hid (hrest.owns HR5.out (by omega))
        clear hown hf hrest
        by_cases h1 : k < ls.length
        · have h1' : (k : Int) < (ls.length : Int) := by omega
          obtain ⟨-, -, b, off, rfl, hx⟩ := (HX.out.below hb).at (by omega)
          have hx := hx k h1
          have HP := Lib.hid (goodK_succ (rootsL (canI is)) ls k h1)
          have HL := Lib.hid (goodK_length (rootsL (canI is)) ls k)
          have HSK := Lib.hid (HS.out ls[k] (List.getElem_mem _))
          go_wp2_with fail
          refine (process_any ls[k] HSK.out wr).mono ?_
          rintro e w6 ⟨rfl, hb6⟩
          have hb06 := below_then hb hb.size hb6
          cases hok : okN ls[k] with
          | false =>
            have HK := Lib.hid (show goodK (rootsL (canI is)) ls (k + 1) = goodK (rootsL (canI is)) ls k by
              rw [HP.out, pickN_no (by simp [pickB, hok])]; simp)
            have HF6 := Lib.hid (HFK.out.below hb6 (by omega))
            have HO6 := Lib.hid (owns_below HOW.out hb6)
            have HR6 := Lib.hid (HRE.out.below (below_of hb6 hsz))
            clear hok
            go_wp2
            repeat (go_quiet (fail); try go_wp2)
            go_round
            case rel =>
              refine ⟨k + 1, _, by go_num, by omega, HF6.out, ?_, hb06, HR6.out⟩
              rw [HK.out]; exact HO6.out
            case measure => simp [intOf]; omega
          | true =>
            have HOK := Lib.hid hok
            clear hok
            go_wp2_with fail
            refine (covers_any atoi_said (rootsL (canI is)) HRS.out ls[k] HSK.out _ w6 (rd_names (owns_below HRR.out hb6))).mono ?_
            rintro e w7 ⟨rfl, hb7⟩
            have hb67 := below_then hb6 hb6.size hb7
            have hb07 := below_then hb hb.size hb67
            have HF7 := Lib.hid (HFK.out.below hb67 (by omega))
            have HO7 := Lib.hid (owns_below HOW.out hb67)
            have HR7 := Lib.hid (HRE.out.below (below_of hb67 hsz))
            have hsz7 := hb67.size
            cases hcv : (rootsL (canI is)).any (withinB ls[k]) with
            | true =>
              have HK := Lib.hid (show goodK (rootsL (canI is)) ls (k + 1) = goodK (rootsL (canI is)) ls k by
                rw [HP.out, pickN_no (by simp [pickB, hcv])]; simp)
              clear hcv
              go_wp2
              repeat (go_quiet (fail); try go_wp2)
              go_round
              case rel =>
                refine ⟨k + 1, _, by go_num, by omega, HF7.out, ?_, hb07, HR7.out⟩
                rw [HK.out]; exact HO7.out
              case measure => simp [intOf]; omega
            | false =>
              have HY := Lib.hid (pickN_yes (show pickB (rootsL (canI is)) ls[k] = true by simp [pickB, HOK.out, hcv]) HSK.out)
              obtain ⟨nm, hnm, hpk⟩ := HY.out
              have HK := Lib.hid (show goodK (rootsL (canI is)) ls (k + 1) = goodK (rootsL (canI is)) ls k ++ [nm] by rw [HP.out, hpk]; rfl)
              have HN := Lib.hid (show encN nm = .string ls[k] by rw [encN, hnm])
              have hcl7 := cell_of_heap HF7.out.2.2 1 _ rfl
              clear hcv hnm hpk hcl
              go_wp2_with (at_builtin; refine wpList_append_own _ rfl _ _ 27 rfl w5.heap.size 47 i0 (.string ByteArray.empty) 1 16 Tryz.underlying27 hi hz0 hz1 hz2 rfl (by decide) _ _ _ rfl (HO7.out.alloc _) ⟨w7.heap.size, 0, none⟩ 1 1 [.string ls[k]] rfl rfl (cell_one_new _ _ _) (by simp [Value.oneCell']) (by have := HL.out; simp only [maxLen]; omega) (by have := HL.out; omega) (by rw [sizeA]; omega) ?_; intro v' w8 hown' hgrow _; obtain ⟨A9, c9, rfl⟩ := own_slice' hown'; have hb8 := below_append HO7.out (by omega) hgrow; have hf8 := HF7.out.below hb8 (by omega); have hc8 := cell_of_heap hf8.2.2 1 _ rfl; have hz8 := frozen_of hf8.2.2 1)
              go_round
              case rel =>
                refine ⟨k + 1, _, by go_num, by omega, hf8.set1 _, ?_, (hb07.trans (below_of hb8 (by omega))).setCell (by show w.heap.size ≤ w.heap.size + 2; omega) _, (HR7.out.below hb8).set 1 _⟩
                rw [HK.out, List.length_append, List.map_append, List.map_cons, HN.out]
                exact ownsRow_setCell_below hown' (by show w.heap.size + 2 < _; omega) _
              case measure => simp [intOf]; omega
        · have h1' : ¬ (k : Int) < (ls.length : Int) := by omega
          obtain rfl : k = ls.length := by omega
          have HGL := Lib.hid (goodK_length (rootsL (canI is)) ls ls.length)
          have HTP := Lib.hid (tops_any atoi_said (goodK (rootsL (canI is)) ls ls.length) (by have := HGL.out; omega) _ wr (rd_nms HOW.out))
          go_wp2_with fail
          refine HTP.out.mono ?_
          rintro e w6 ⟨y6, S, rfl, hS, -, ho6, hb6⟩
          obtain ⟨A8, c8, rfl⟩ := own_slice' ho6
          have HSS := Lib.hid hS
          have HO6 := Lib.hid ho6
          have HF6 := Lib.hid (HFK.out.below hb6 (by omega))
          have hc6 := cell_of_heap HF6.out.2.2 1 _ rfl
          have hc60 := cell_of_heap HF6.out.2.2 0 _ rfl
          have hz6 := frozen_of HF6.out.2.2 1
          have hr0 := cell_of_heap HF6.out.2.1 0 _ rfl
          have hr1 := cell_of_heap HF6.out.2.1 1 _ rfl
          have hz60 := frozen_of HF6.out.2.1 0
          have hz61 := frozen_of HF6.out.2.1 1
          clear hS ho6 hcl
          go_wp2_with fail
          have hh : (((w6.setCell ⟨w.heap.size + 1 + 1, 1, none⟩ (.slice A8 (topsL S).length c8)).setCell ⟨w.heap.size + 1, 0, none⟩ (.slice A5 (canI is).length c5)).setCell ⟨w.heap.size + 1, 1, none⟩ (.slice A8 (topsL S).length c8)).heap[w.heap.size + 1]? = some (.cells #[.slice A5 (canI is).length c5, .slice A8 (topsL S).length c8] 29 (0, 0)) := by
            have h1 := (Below.heap_setCell w6 ⟨w.heap.size + 1 + 1, 1, none⟩ (.slice A8 (topsL S).length c8) (w.heap.size + 1) (by simp)).trans HF6.out.2.1
            exact heap_set (heap_set h1 0 _) 1 _
          refine bodyPost_ret (results_cell_row rfl _ _ (w.heap.size + 1) 29 _ (0, 0) _ rfl hh hu29 rfl Tryz_size29) rfl ?_
          have hOI := owns_below (HRE.out.owns HO5.out (by omega)) hb6
          have hOY := owns_at HO6.out hsz
          refine ⟨_, _, rfl, owns_at (ownsRow_setCell_below (ownsRow_setCell_below (ownsRow_setCell_below hOI ?_ _) ?_ _) ?_ _) (by omega), ?_, ?_⟩
          · show w.heap.size + 2 < _; omega
          · show w.heap.size + 1 < _; omega
          · show w.heap.size + 1 < _; omega
          · have hS : topsL S = canN is ls := by
              rw [canN, ← goodK_all, sortN_eq HSS.out]
            rw [← hS]
            have h2 := ownsRow_setCell_below (ownsRow_setCell_below (ownsRow_setCell_below hOY (a := ⟨w.heap.size + 1 + 1, 1, none⟩) (by show w.heap.size + 2 < _; omega) (.slice A8 (topsL S).length c8)) (a := ⟨w.heap.size + 1, 0, none⟩) (by show w.heap.size + 1 < _; omega) (.slice A5 (canI is).length c5)) (a := ⟨w.heap.size + 1, 1, none⟩) (by show w.heap.size + 1 < _; omega) (.slice A8 (topsL S).length c8)
            exact owns_at h2 (by omega)
          · exact (((below_then hb hb.size hb6).setCell (by show w.heap.size ≤ w.heap.size + 2; omega) _).setCell (by show w.heap.size ≤ w.heap.size + 1; omega) _).setCell (by show w.heap.size ≤ w.heap.size + 1; omega) _
end Go.Proofs.YtcbgngkalplafaaGreatDoor
