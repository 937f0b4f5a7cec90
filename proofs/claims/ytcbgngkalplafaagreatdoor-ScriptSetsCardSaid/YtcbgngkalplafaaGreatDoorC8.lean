/- script.Take. -/
import Derived.Test.YtcbgngkalplafaaGreatDoorC7
namespace Go.Proofs.YtcbgngkalplafaaGreatDoor
open Go.RowKit Go.Shelf Lin

/-- The numbers that the script has. -/
def thereK (s : Scr) (is : List Int) (k : Nat) : List Int := (is.take k).filter fun n => isIn s n
theorem thereK_succ (s : Scr) (is : List Int) (k : Nat) (h : k < is.length) : thereK s is (k + 1) = thereK s is k ++ if isIn s is[k] = true then [is[k]] else [] := by
  unfold thereK
  rw [List.take_succ_eq_append_getElem h, List.filter_append]
  congr 1
  by_cases e : isIn s is[k] = true <;> simp [e]
theorem thereK_length (s : Scr) (is : List Int) (k : Nat) : (thereK s is k).length ≤ k := Nat.le_trans (List.length_filter_le _ _) (by simp; omega)
def thereL (s : Scr) (is : List Int) : List Int := is.filter fun n => isIn s n
theorem thereK_all (s : Scr) (is : List Int) : thereK s is is.length = thereL s is := by unfold thereK thereL; rw [List.take_length]

/-- What Take's three boxes hold: the script, the result, w. -/
def Ft (B : Nat) (cs : Array Value) (v y : Value) (W : World) : Prop :=
  W.heap[B]? = some (.cells cs 25 (0, 0)) ∧ W.heap[B + 1]? = some (.cells #[.slice none 0 0, .slice none 0 0] 29 (0, 0)) ∧ W.heap[B + 2]? = some (.cells #[v, y] 29 (0, 0))
theorem Ft.below {B C : Nat} {cs : Array Value} {v y : Value} {W W' : World} (h : Ft B cs v y W) (hb : Below C W W') (hC : B + 3 ≤ C) : Ft B cs v y W' :=
  ⟨(hb.block B (by omega)).trans h.1, (hb.block (B + 1) (by omega)).trans h.2.1, (hb.block (B + 2) (by omega)).trans h.2.2⟩
theorem Ft.set0 {B : Nat} {cs : Array Value} {v y : Value} {W : World} (h : Ft B cs v y W) (v' : Value) : Ft B cs v' y (W.setCell ⟨B + 2, 0, none⟩ v') :=
  ⟨(Below.heap_setCell W _ _ B (by simp)).trans h.1, (Below.heap_setCell W _ _ (B + 1) (by simp)).trans h.2.1, heap_set h.2.2 0 v'⟩

set_option maxRecDepth 100000 in
set_option maxHeartbeats 8000000 in
theorem take_any (s : Scr) (is : List Int) (ls : List ByteArray) (hi1 : is.length ≤ 1000000) (hl1 : ls.length ≤ 1000000) (hs : ∀ x ∈ ls, x.size ≤ 9223372036854775807) (sv u x : Value) (w : World) (hT : TabOk w)
    (hsv : RdScr w sv s) (hu : Rd (Value.int .i64) w u is) (hx : Rd Value.string w x ls) :
    Calls Tryz.prog 10 #[sv, u, x] w (CanPost w.heap.size (thereL s is) ls w) := by
  rw [← thereK_all]
  have hu29 := Tryz.underlying29
  have hu25 := Tryz.underlying25
  obtain ⟨i3, j1, j2, j3, j4⟩ := info_parts Tryz_info3
  have HSV := Lib.hid hsv
  obtain ⟨s1, s2, rfl, hs1, hs2⟩ := hsv
  have HU := Lib.hid hu
  have HX := Lib.hid hx
  have HT := Lib.hid hT
  have HS := Lib.hid hs
  obtain ⟨A2, c2, rfl, -⟩ := hs1.slice
  obtain ⟨A3, c3, rfl, -⟩ := hs2.slice
  obtain ⟨A, c, rfl, hlen⟩ := hu.slice
  obtain ⟨A', c', rfl, hlen'⟩ := hx.slice
  clear hu hx hT hs hs1 hs2
  generalize hn2 : s.ins.length = n2 at HSV
  generalize hn3 : s.sch.length = n3 at HSV
  have hb0 := (((Below.refl w.heap.size w).alloc (Nat.le_refl _) (.cells #[.int .i64 s.frm, .int .i64 s.to, .int .i64 s.before, .slice A2 n2 c2, .slice A3 n3 c3] 25)).alloc (by rw [sizeA]; omega) (.cells #[.slice none 0 0, .slice none 0 0] 29)).alloc (by rw [sizeA, sizeA]; omega) (.cells #[.slice none 0 0, .slice A' ls.length c'] 29)
  have hf0 : Ft w.heap.size #[.int .i64 s.frm, .int .i64 s.to, .int .i64 s.before, .slice A2 n2 c2, .slice A3 n3 c3] (.slice none 0 0) (.slice A' ls.length c') (((w.alloc (.cells #[.int .i64 s.frm, .int .i64 s.to, .int .i64 s.before, .slice A2 n2 c2, .slice A3 n3 c3] 25)).alloc (.cells #[.slice none 0 0, .slice none 0 0] 29)).alloc (.cells #[.slice none 0 0, .slice A' ls.length c'] 29)) := by
    refine ⟨?_, ?_, ?_⟩
    · rw [Below.heap_alloc _ _ _ (by rw [sizeA, sizeA]; omega), Below.heap_alloc _ _ _ (by rw [sizeA]; omega)]; exact heapA _ _
    · rw [Below.heap_alloc _ _ _ (by rw [sizeA, sizeA]; omega)]
      have := heapA (w.alloc (.cells #[.int .i64 s.frm, .int .i64 s.to, .int .i64 s.before, .slice A2 n2 c2, .slice A3 n3 c3] 25)) (.cells #[.slice none 0 0, .slice none 0 0] 29)
      rwa [sizeA] at this
    · have := heapA ((w.alloc (.cells #[.int .i64 s.frm, .int .i64 s.to, .int .i64 s.before, .slice A2 n2 c2, .slice A3 n3 c3] 25)).alloc (.cells #[.slice none 0 0, .slice none 0 0] 29)) (.cells #[.slice none 0 0, .slice A' ls.length c'] 29)
      rwa [sizeA, sizeA] at this
  have hsz0 : (((w.alloc (.cells #[.int .i64 s.frm, .int .i64 s.to, .int .i64 s.before, .slice A2 n2 c2, .slice A3 n3 c3] 25)).alloc (.cells #[.slice none 0 0, .slice none 0 0] 29)).alloc (.cells #[.slice none 0 0, .slice A' ls.length c'] 29)).heap.size = w.heap.size + 3 := by rw [sizeA, sizeA, sizeA]
  go_enter Tryz.func10, Tryz.ntmps10
  go_wp2_with fail
  generalize (((w.alloc (.cells #[.int .i64 s.frm, .int .i64 s.to, .int .i64 s.before, .slice A2 n2 c2, .slice A3 n3 c3] 25)).alloc (.cells #[.slice none 0 0, .slice none 0 0] 29)).alloc (.cells #[.slice none 0 0, .slice A' ls.length c'] 29)) = w0 at hb0 hf0 hsz0 ⊢
  go_loopw [16] (fun a wr => ∃ (k : Nat) (v : Value), a = .int .i64 k ∧ k ≤ is.length ∧ Ft w.heap.size #[.int .i64 s.frm, .int .i64 s.to, .int .i64 s.before, .slice A2 n2 c2, .slice A3 n3 c3] v (.slice A' ls.length c') wr ∧ wr.ownsRow (w.heap.size + 3) 3 1 v (thereK s is k).length ((thereK s is k).map (Value.int .i64)) ∧ Below w.heap.size w wr ∧ w.heap.size + 3 ≤ wr.heap.size) (fun a _ => is.length - (intOf a).toNat)
  case atStart => exact ⟨0, _, rfl, by omega, hf0, World.ownsRow_nil _ _ _ _, hb0, by omega⟩
  case round =>
    obtain ⟨k, v, rfl, hk, hf, hown, hb, hsz⟩ := hrel
    obtain ⟨A4, c4, rfl⟩ := own_slice' hown
    have HOW := Lib.hid hown
    have HF := Lib.hid hf
    have hcl := cell_of_heap hf.2.2 0 _ rfl
    have hcl1 := cell_of_heap hf.2.2 1 _ rfl
    have hg0 := cell_of_heap hf.1 0 _ rfl
    have hg1 := cell_of_heap hf.1 1 _ rfl
    have hg2 := cell_of_heap hf.1 2 _ rfl
    have hg3 := cell_of_heap hf.1 3 _ rfl
    have hg4 := cell_of_heap hf.1 4 _ rfl
    clear hown hf hb0 hf0 hsz0
    by_cases h1 : k < is.length
    · have h1' : (k : Int) < (is.length : Int) := by omega
      obtain ⟨-, -, b, off, rfl, hx⟩ := (HU.out.below hb).at (by omega)
      have hx := hx k h1
      have HP := Lib.hid (thereK_succ s is k h1)
      have HL := Lib.hid (thereK_length s is k)
      have HIN := Lib.hid (input_any s is[k] _ wr (by
        obtain ⟨s1, s2, e, q1, q2⟩ := HSV.out
        exact ⟨s1, s2, e, q1.below hb, q2.below hb⟩))
      go_wp2_with fail
      refine HIN.out.mono ?_
      rintro e w2 ⟨t, rfl, hb2⟩
      have hba := hb2.alloc hb2.size (.cells #[.int .i64 t.tick, .int .i64 t.kind, .int .i64 t.num, .string t.frm, .string t.to, .string t.txt] 38)
      have hb12 := below_then hb hb.size hba
      have hsz2 := hba.size
      have HF2 := Lib.hid (HF.out.below hba (by omega))
      have HO2 := Lib.hid (owns_below HOW.out hba)
      have hc2 := cell_of_heap HF2.out.2.2 0 _ rfl
      cases hin : isIn s is[k] with
      | true =>
        have HK := Lib.hid (show thereK s is (k + 1) = thereK s is k ++ [is[k]] by rw [HP.out, if_pos hin])
        clear hin hcl hcl1 hg0 hg1 hg2 hg3 hg4
        go_wp2_with (at_builtin; refine wpList_append_own _ rfl _ _ 26 rfl (w.heap.size + 3) 3 i3 (.int .i64 0) 1 8 Tryz.underlying26 j1 j2 j3 j4 rfl (by decide) _ _ _ rfl (HO2.out.alloc _) ⟨w2.heap.size + 1, 0, none⟩ 1 1 [.int .i64 is[k]] rfl rfl (by have := cell_one_new (w2.alloc (.cells #[.int .i64 t.tick, .int .i64 t.kind, .int .i64 t.num, .string t.frm, .string t.to, .string t.txt] 38)) (.int .i64 is[k]) 3; rw [sizeA] at this; exact this) (by simp [Value.oneCell']) (by have := HL.out; simp only [maxLen]; omega) (by have := HL.out; omega) (by rw [sizeA]; omega) ?_; intro v' w3 hown' hgrow _; obtain ⟨A5, c5, rfl⟩ := own_slice' hown'; have hb3 := below_append HO2.out (by omega) hgrow; have hf3 := HF2.out.below hb3 (Nat.le_refl _); have hc3 := cell_of_heap hf3.2.2 0 _ rfl; have hz3 := frozen_of hf3.2.2 0)
        go_round
        case rel =>
          refine ⟨k + 1, _, by go_num, by omega, hf3.set0 _, ?_, (hb12.trans (below_of hb3 (by omega))).setCell (by show w.heap.size ≤ w.heap.size + 2; omega) _, by have := hb3.size; simp only [World.setCell, Array.size_modify]; omega⟩
          rw [HK.out, List.length_append, List.map_append]; exact ownsRow_setCell_below hown' (by show w.heap.size + 2 < _; omega) _
        case measure => simp [intOf]; omega
      | false =>
        have HK := Lib.hid (show thereK s is (k + 1) = thereK s is k by rw [HP.out, hin]; simp)
        clear hin
        go_wp2_with fail
        go_round
        case rel =>
          refine ⟨k + 1, _, by go_num, by omega, HF2.out, ?_, hb12, by omega⟩
          rw [HK.out]; exact HO2.out
        case measure => simp [intOf]; omega
    · have h1' : ¬ (k : Int) < (is.length : Int) := by omega
      obtain rfl : k = is.length := by omega
      have HL := Lib.hid (thereK_length s is is.length)
      have HCN := Lib.hid (canonical_any (thereK s is is.length) ls (by have := HL.out; omega) hl1 HS.out _ _ wr (HT.out.below hb) (Rd.of_own (e := 3) HOW.out) (HX.out.below hb))
      go_wp2_with fail
      refine HCN.out.mono ?_
      rintro e w6 ⟨v6, y6, rfl, ho1, ho2, hb6⟩
      have HO1 := Lib.hid ho1
      have HO2 := Lib.hid ho2
      obtain ⟨A8, c8, rfl⟩ := own_slice' ho1
      obtain ⟨A9, c9, rfl⟩ := own_slice' ho2
      have HF6 := Lib.hid (HF.out.below hb6 hsz)
      have hr0 := cell_of_heap HF6.out.2.1 0 _ rfl
      have hr1 := cell_of_heap HF6.out.2.1 1 _ rfl
      have hz60 := frozen_of HF6.out.2.1 0
      have hz61 := frozen_of HF6.out.2.1 1
      clear ho1 ho2 hcl hcl1 hg0 hg1 hg2 hg3 hg4
      go_wp2_with fail
      have hh : ((w6.setCell ⟨w.heap.size + 1, 0, none⟩ (.slice A8 (canI (thereK s is is.length)).length c8)).setCell ⟨w.heap.size + 1, 1, none⟩ (.slice A9 (canN (thereK s is is.length) ls).length c9)).heap[w.heap.size + 1]? = some (.cells #[.slice A8 (canI (thereK s is is.length)).length c8, .slice A9 (canN (thereK s is is.length) ls).length c9] 29 (0, 0)) :=
        heap_set (heap_set HF6.out.2.1 0 _) 1 _
      refine bodyPost_ret (results_cell_row rfl _ _ (w.heap.size + 1) 29 _ (0, 0) _ rfl hh hu29 rfl Tryz_size29) rfl ?_
      refine ⟨_, _, rfl, owns_at (ownsRow_setCell_below (ownsRow_setCell_below HO1.out ?_ _) ?_ _) (by omega), owns_at (ownsRow_setCell_below (ownsRow_setCell_below HO2.out ?_ _) ?_ _) (by omega), ?_⟩
      · show w.heap.size + 1 < _; omega
      · show w.heap.size + 1 < _; omega
      · show w.heap.size + 1 < _; omega
      · show w.heap.size + 1 < _; omega
      · exact ((below_then hb hb.size hb6).setCell (by show w.heap.size ≤ w.heap.size + 1; omega) _).setCell (by show w.heap.size ≤ w.heap.size + 1; omega) _
end Go.Proofs.YtcbgngkalplafaaGreatDoor
