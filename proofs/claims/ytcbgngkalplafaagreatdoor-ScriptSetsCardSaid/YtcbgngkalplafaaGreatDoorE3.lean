/- The parts of known: part and Cut. -/
import Derived.Test.YtcbgngkalplafaaGreatDoorE2
namespace Go.Proofs.YtcbgngkalplafaaGreatDoor
open Go.RowKit Go.Shelf Lin

def zero5 : Array Value := #[.int .i64 0, .int .i64 0, .int .i64 0, .slice none 0 0, .slice none 0 0]
/-- The three boxes of part: the script, the result, out. -/
def FP (B : Nat) (cs : Array Value) (f t q : Int) (u : Value) (W : World) : Prop :=
  W.heap[B]? = some (.cells cs 25 (0, 0)) ∧ W.heap[B + 1]? = some (.cells #[.int .i64 0, .int .i64 0, .int .i64 0, .slice none 0 0, .slice none 0 0] 25 (0, 0)) ∧ W.heap[B + 2]? = some (.cells #[.int .i64 f, .int .i64 t, .int .i64 q, u, .slice none 0 0] 25 (0, 0))
theorem FP.below {B C : Nat} {cs : Array Value} {f t q : Int} {u : Value} {W W' : World} (h : FP B cs f t q u W) (hb : Below C W W') (hC : B + 3 ≤ C) : FP B cs f t q u W' :=
  ⟨(hb.block B (by omega)).trans h.1, (hb.block (B + 1) (by omega)).trans h.2.1, (hb.block (B + 2) (by omega)).trans h.2.2⟩
theorem FP.setU {B : Nat} {cs : Array Value} {f t q : Int} {u : Value} {W : World} (h : FP B cs f t q u W) (u' : Value) : FP B cs f t q u' (W.setCell ⟨B + 2, 3, none⟩ u') :=
  ⟨(Below.heap_setCell W _ _ B (by simp)).trans h.1, (Below.heap_setCell W _ _ (B + 1) (by simp)).trans h.2.1, heap_set h.2.2 3 u'⟩
theorem FP.setQ {B : Nat} {cs : Array Value} {f t q : Int} {u : Value} {W : World} (h : FP B cs f t q u W) (q' : Int) : FP B cs f t q' u (W.setCell ⟨B + 2, 2, none⟩ (.int .i64 q')) :=
  ⟨(Below.heap_setCell W _ _ B (by simp)).trans h.1, (Below.heap_setCell W _ _ (B + 1) (by simp)).trans h.2.1, heap_set h.2.2 2 _⟩
theorem FP.start (w : World) (cs : Array Value) (f t q : Int) (u : Value) : FP w.heap.size cs f t q u (((w.alloc (.cells cs 25)).alloc (.cells #[.int .i64 0, .int .i64 0, .int .i64 0, .slice none 0 0, .slice none 0 0] 25)).alloc (.cells #[.int .i64 f, .int .i64 t, .int .i64 q, u, .slice none 0 0] 25)) := by
  refine ⟨?_, ?_, ?_⟩
  · rw [Below.heap_alloc _ _ _ (by rw [sizeA, sizeA]; omega), Below.heap_alloc _ _ _ (by rw [sizeA]; omega)]; exact heapA _ _
  · rw [Below.heap_alloc _ _ _ (by rw [sizeA, sizeA]; omega)]; exact heapA2 _ _ _
  · have := heapA ((w.alloc (.cells cs 25)).alloc (.cells #[.int .i64 0, .int .i64 0, .int .i64 0, .slice none 0 0, .slice none 0 0] 25)) (.cells #[.int .i64 f, .int .i64 t, .int .i64 q, u, .slice none 0 0] 25)
    rwa [sizeA, sizeA] at this
theorem below_app2 {W w1 : World} {B n s : Nat} {e : TypeId} {v : Value} {xs : List Value} {o o' : Obj} (hown : W.ownsRow B e s v n xs) (hB : B ≤ W.heap.size) (hg : ((W.alloc o).alloc o').grownBy w1 v.ownBlock) : Below B W w1 :=
  (((Below.refl B W).alloc hB o).alloc (by rw [sizeA]; omega) o').grown hg (by rw [sizeA, sizeA]; omega) fun k hk => (hown.lt k hk).1
theorem Tryz_info38 : (Tryz.prog.info? 38).map (fun i => (i.zero, i.size, i.bytes)) = some (some (.agg #[.int .i64 0, .int .i64 0, .int .i64 0, .string ⟨#[]⟩, .string ⟨#[]⟩, .string ⟨#[]⟩]), 6, 72) := by kernel_rfl
theorem setO_ownsK {W : World} {B n s b : Nat} {e : TypeId} {v : Value} {xs : List Value} (h : W.ownsRow B e s v n xs) (hb : b < B) (j : Nat) (a : Value) : (W.setCell ⟨b, j, none⟩ a).ownsRow B e s v n xs := by
  refine ⟨h.1, ?_⟩
  rcases h.2 with h | ⟨g, cap, cur, e1, hB, hh, r⟩
  · exact .inl h
  · exact .inr ⟨g, cap, cur, e1, hB, (Below.heap_setCell W _ _ g (by show g ≠ b; omega)).trans hh, r⟩
def qk : Nat → Int
  | 0 => 3
  | 1 => 4
  | _ => 5
theorem qk_succ (k : Nat) (h : k < 2) : wrap64 (qk k + 1) = qk (k + 1) := by
  rcases (by omega : k = 0 ∨ k = 1) with rfl | rfl
  · show wrap64 (3 + 1) = 4
    unfold wrap64; omega
  · show wrap64 (4 + 1) = 5
    unfold wrap64; omega
theorem Tryz_size25 : (Tryz.prog.info? 25).map (·.size) = some 5 := by kernel_rfl

set_option maxRecDepth 100000 in
set_option maxHeartbeats 8000000 in
theorem part56_known (b off c : Nat) (w : World) (hc : 3 ≤ c) (hc2 : c ≤ 9223372036854775807) (hA : KIn w b off) :
    Calls Tryz.prog 52 #[.agg #[.int .i64 5, .int .i64 7, .int .i64 3, .slice (some ⟨b, off, none⟩) 3 c, .slice none 0 0], .int .i64 5, .int .i64 6] w fun e w' => ∃ A n d, e = .returned (.agg #[.int .i64 5, .int .i64 6, .int .i64 3, .slice A n d, .slice none 0 0]) ∧ Below w.heap.size w w' := by
  have hu25 := Tryz.underlying25
  obtain ⟨i38, k1, k2, k3, k4⟩ := info_parts Tryz_info38
  have HA := Lib.hid hA
  have HF := Lib.hid (FP.start w #[.int .i64 5, .int .i64 7, .int .i64 3, .slice (some ⟨b, off, none⟩) 3 c, .slice none 0 0] 5 6 3 (.slice none 0 0))
  have HB := Lib.hid ((((Below.refl w.heap.size w).alloc (Nat.le_refl _) (.cells #[.int .i64 5, .int .i64 7, .int .i64 3, .slice (some ⟨b, off, none⟩) 3 c, .slice none 0 0] 25)).alloc (by rw [sizeA]; omega) (.cells #[.int .i64 0, .int .i64 0, .int .i64 0, .slice none 0 0, .slice none 0 0] 25)).alloc (by rw [sizeA, sizeA]; omega) (.cells #[.int .i64 5, .int .i64 6, .int .i64 3, .slice none 0 0, .slice none 0 0] 25))
  have hW0 : (((w.alloc (.cells #[.int .i64 5, .int .i64 7, .int .i64 3, .slice (some ⟨b, off, none⟩) 3 c, .slice none 0 0] 25)).alloc (.cells #[.int .i64 0, .int .i64 0, .int .i64 0, .slice none 0 0, .slice none 0 0] 25)).alloc (.cells #[.int .i64 5, .int .i64 6, .int .i64 3, .slice none 0 0, .slice none 0 0] 25)).heap.size = w.heap.size + 3 := by rw [sizeA, sizeA, sizeA]
  clear hA
  go_enter Tryz.func52, Tryz.ntmps52
  go_wp2_with fail
  generalize (((w.alloc (.cells #[.int .i64 5, .int .i64 7, .int .i64 3, .slice (some ⟨b, off, none⟩) 3 c, .slice none 0 0] 25)).alloc (.cells #[.int .i64 0, .int .i64 0, .int .i64 0, .slice none 0 0, .slice none 0 0] 25)).alloc (.cells #[.int .i64 5, .int .i64 6, .int .i64 3, .slice none 0 0, .slice none 0 0] 25)) = W0 at HF HB hW0 ⊢
  go_loopw [21] (fun d wr => ∃ (k : Nat) (u : Value) (m : Nat) (xs : List Value), d = .int .i64 k ∧ k ≤ 3 ∧ m ≤ k ∧ FP w.heap.size #[.int .i64 5, .int .i64 7, .int .i64 3, .slice (some ⟨b, off, none⟩) 3 c, .slice none 0 0] 5 6 3 u wr ∧ wr.ownsRow (w.heap.size + 3) 38 6 u m xs ∧ Below w.heap.size w wr ∧ w.heap.size + 3 ≤ wr.heap.size) (fun d _ => 3 - (intOf d).toNat)
  case atStart => exact ⟨0, _, _, _, rfl, by omega, Nat.le_refl _, HF.out, World.ownsRow_nil _ _ _ _, HB.out, by omega⟩
  obtain ⟨k, u, m, xs, rfl, hk, hm, hf, hown, hb, hsz⟩ := hrel
  obtain ⟨B1, n1, d1, rfl⟩ := own_sl hown
  have HO := Lib.hid hown
  have HFr := Lib.hid hf
  clear hown hf
  by_cases h1 : k < 3
  rotate_left
  · have h1' : ¬ (k : Int) < 3 := by omega
    obtain rfl : k = 3 := by omega
    have HFr := Lib.hid (show FP w.heap.size #[.int .i64 5, .int .i64 7, .int .i64 3, .slice (some ⟨b, off, none⟩) 3 c, .slice none 0 0] 5 6 3 (.slice B1 n1 d1) wr from HFr.out)
    have r3 := cell_of_heap HFr.out.1 4 _ rfl
    have r0 := cell_of_heap HFr.out.1 0 _ rfl
    have o0 := cell_of_heap HFr.out.2.2 0 _ rfl
    have o1 := cell_of_heap HFr.out.2.2 1 _ rfl
    have o2 := cell_of_heap HFr.out.2.2 2 _ rfl
    have o3 := cell_of_heap HFr.out.2.2 3 _ rfl
    have o4 := cell_of_heap HFr.out.2.2 4 _ rfl
    have s0 := cell_of_heap HFr.out.2.1 0 _ rfl
    have s1 := cell_of_heap HFr.out.2.1 1 _ rfl
    have s2 := cell_of_heap HFr.out.2.1 2 _ rfl
    have s3 := cell_of_heap HFr.out.2.1 3 _ rfl
    have s4 := cell_of_heap HFr.out.2.1 4 _ rfl
    have z0 := frozen_of HFr.out.2.1 0
    have z1 := frozen_of HFr.out.2.1 1
    have z2 := frozen_of HFr.out.2.1 2
    have z3 := frozen_of HFr.out.2.1 3
    have z4 := frozen_of HFr.out.2.1 4
    go_wp2_with fail
    refine wp_loop_rounds 1 ?_
    rw [rounds_succ]
    go_wp2_with fail
    have hh : (((((wr.setCell ⟨w.heap.size + 1, 0, none⟩ (.int .i64 5)).setCell ⟨w.heap.size + 1, 1, none⟩ (.int .i64 6)).setCell ⟨w.heap.size + 1, 2, none⟩ (.int .i64 3)).setCell ⟨w.heap.size + 1, 3, none⟩ (.slice B1 n1 d1)).setCell ⟨w.heap.size + 1, 4, none⟩ (.slice none 0 0)).heap[w.heap.size + 1]? = some (.cells #[.int .i64 5, .int .i64 6, .int .i64 3, .slice B1 n1 d1, .slice none 0 0] 25 (0, 0)) :=
      heap_set (heap_set (heap_set (heap_set (heap_set HFr.out.2.1 0 _) 1 _) 2 _) 3 _) 4 _
    refine bodyPost_ret (results_cell_row rfl _ _ (w.heap.size + 1) 25 _ (0, 0) _ rfl hh hu25 rfl Tryz_size25) rfl ?_
    exact ⟨_, _, _, rfl, ((((hb.setCell (by show w.heap.size ≤ w.heap.size + 1; omega) _).setCell (by show w.heap.size ≤ w.heap.size + 1; omega) _).setCell (by show w.heap.size ≤ w.heap.size + 1; omega) _).setCell (by show w.heap.size ≤ w.heap.size + 1; omega) _).setCell (by show w.heap.size ≤ w.heap.size + 1; omega) _⟩
  have h1' : (k : Int) < 3 := by omega
  have hq := (HA.out.below hb) k h1
  have o2 := cell_of_heap HFr.out.2.2 2 _ rfl
  have o3 := cell_of_heap HFr.out.2.2 3 _ rfl
  have z2 := frozen_of HFr.out.2.2 2
  by_cases h2 : k < 2
  rotate_left
  · have hq : AtT wr b (off + k * 6) ⟨6, 4, 1, ByteArray.empty, ByteArray.empty, ByteArray.empty⟩ := by rw [kt, if_neg h2] at hq; exact hq
    obtain ⟨q0, q1, q2, q3, q4, q5⟩ := hq
    have hX := heapA wr (.cells #[.int .i64 6, .int .i64 4, .int .i64 1, .string ByteArray.empty, .string ByteArray.empty, .string ByteArray.empty] 38)
    have x0 := cell_of_heap hX 0 _ rfl
    have x1 := cell_of_heap hX 1 _ rfl
    have x2 := cell_of_heap hX 2 _ rfl
    have x3 := cell_of_heap hX 3 _ rfl
    have x4 := cell_of_heap hX 4 _ rfl
    have x5 := cell_of_heap hX 5 _ rfl
    have hba := (Below.refl wr.heap.size wr).alloc (Nat.le_refl _) (.cells #[.int .i64 6, .int .i64 4, .int .i64 1, .string ByteArray.empty, .string ByteArray.empty, .string ByteArray.empty] 38)
    have HFa := Lib.hid (HFr.out.below hba hsz)
    have hbwa := below_then hb hb.size hba
    have p2 := cell_of_heap HFa.out.2.2 2 _ rfl
    have p3 := cell_of_heap HFa.out.2.2 3 _ rfl
    have y2 := frozen_of HFa.out.2.2 2
    clear hX hba o2 o3 z2
    obtain rfl : k = 2 := by omega
    go_wp2_with fail
    go_round
    case rel => exact ⟨3, _, _, _, rfl, by omega, by omega, HFa.out, HO.out.alloc _, hbwa, by rw [sizeA]; omega⟩
    case measure => simp [intOf]
  have hq : AtT wr b (off + k * 6) ⟨5, 4, 1, ByteArray.empty, ByteArray.empty, ByteArray.empty⟩ := by rw [kt, if_pos h2] at hq; exact hq
  obtain ⟨q0, q1, q2, q3, q4, q5⟩ := hq
  have hX := heapA wr (.cells #[.int .i64 5, .int .i64 4, .int .i64 1, .string ByteArray.empty, .string ByteArray.empty, .string ByteArray.empty] 38)
  have x0 := cell_of_heap hX 0 _ rfl
  have x1 := cell_of_heap hX 1 _ rfl
  have x2 := cell_of_heap hX 2 _ rfl
  have x3 := cell_of_heap hX 3 _ rfl
  have x4 := cell_of_heap hX 4 _ rfl
  have x5 := cell_of_heap hX 5 _ rfl
  have hba := (Below.refl wr.heap.size wr).alloc (Nat.le_refl _) (.cells #[.int .i64 5, .int .i64 4, .int .i64 1, .string ByteArray.empty, .string ByteArray.empty, .string ByteArray.empty] 38)
  have HFa := Lib.hid (HFr.out.below hba hsz)
  have hbwa := below_then hb hb.size hba
  have p2 := cell_of_heap HFa.out.2.2 2 _ rfl
  have p3 := cell_of_heap HFa.out.2.2 3 _ rfl
  have y2 := frozen_of HFa.out.2.2 2
  clear hX hba o2 o3 z2
  have HW1 := heapA2 wr (.cells #[.int .i64 5, .int .i64 4, .int .i64 1, .string ByteArray.empty, .string ByteArray.empty, .string ByteArray.empty] 38) (.cells #[.int .i64 5, .int .i64 4, .int .i64 1, .string ByteArray.empty, .string ByteArray.empty, .string ByteArray.empty] 38)
  have HSRC := Lib.hid (cells_src HW1)
  clear HW1
  go_wp2_with (at_builtin; refine wpList_append_own _ rfl _ _ 22 rfl (w.heap.size + 3) 38 i38 _ 6 72 Tryz.underlying22 k1 k2 k3 k4 rfl (by decide) (.slice B1 n1 d1) m xs rfl ((HO.out.alloc _).alloc _) ⟨wr.heap.size + 1, 0, none⟩ 1 1 [.int .i64 5, .int .i64 4, .int .i64 1, .string ByteArray.empty, .string ByteArray.empty, .string ByteArray.empty] rfl rfl HSRC.out ?_ (by simp only [maxLen]; omega) (by omega) (by rw [sizeA, sizeA]; omega) ?_; (intro y hy; simp only [List.mem_cons, List.not_mem_nil, or_false] at hy; rcases hy with rfl | rfl | rfl | rfl | rfl | rfl <;> rfl); intro v' w3 hown' hgrow _; obtain ⟨B5, n5, d5, rfl⟩ := own_sl hown'; have hb3 := below_app2 HO.out hsz hgrow; have hf3 := HFr.out.below hb3 (Nat.le_refl _); have hc3 := cell_of_heap hf3.2.2 3 _ rfl; have hz3 := frozen_of hf3.2.2 3)
  go_round
  case rel =>
    exact ⟨k + 1, _, _, _, by go_num, by omega, by omega, hf3.setU _, setO_ownsK hown' (by omega) _ _, (hb.trans (below_of hb3 (by omega))).setCell (by show w.heap.size ≤ w.heap.size + 2; omega) _, by have := hb3.size; simp only [World.setCell, Array.size_modify]; omega⟩
  case measure => simp [intOf]; omega


set_option maxRecDepth 100000 in
set_option maxHeartbeats 8000000 in
theorem part67_known (b off c : Nat) (w : World) (hc : 3 ≤ c) (hc2 : c ≤ 9223372036854775807) (hA : KIn w b off) :
    Calls Tryz.prog 52 #[.agg #[.int .i64 5, .int .i64 7, .int .i64 3, .slice (some ⟨b, off, none⟩) 3 c, .slice none 0 0], .int .i64 6, .int .i64 7] w fun e w' => ∃ A n d, e = .returned (.agg #[.int .i64 6, .int .i64 7, .int .i64 5, .slice A n d, .slice none 0 0]) ∧ Below w.heap.size w w' := by
  have hu25 := Tryz.underlying25
  obtain ⟨i38, k1, k2, k3, k4⟩ := info_parts Tryz_info38
  have HA := Lib.hid hA
  have HF := Lib.hid (FP.start w #[.int .i64 5, .int .i64 7, .int .i64 3, .slice (some ⟨b, off, none⟩) 3 c, .slice none 0 0] 6 7 3 (.slice none 0 0))
  have HB := Lib.hid ((((Below.refl w.heap.size w).alloc (Nat.le_refl _) (.cells #[.int .i64 5, .int .i64 7, .int .i64 3, .slice (some ⟨b, off, none⟩) 3 c, .slice none 0 0] 25)).alloc (by rw [sizeA]; omega) (.cells #[.int .i64 0, .int .i64 0, .int .i64 0, .slice none 0 0, .slice none 0 0] 25)).alloc (by rw [sizeA, sizeA]; omega) (.cells #[.int .i64 6, .int .i64 7, .int .i64 3, .slice none 0 0, .slice none 0 0] 25))
  have hW0 : (((w.alloc (.cells #[.int .i64 5, .int .i64 7, .int .i64 3, .slice (some ⟨b, off, none⟩) 3 c, .slice none 0 0] 25)).alloc (.cells #[.int .i64 0, .int .i64 0, .int .i64 0, .slice none 0 0, .slice none 0 0] 25)).alloc (.cells #[.int .i64 6, .int .i64 7, .int .i64 3, .slice none 0 0, .slice none 0 0] 25)).heap.size = w.heap.size + 3 := by rw [sizeA, sizeA, sizeA]
  clear hA
  go_enter Tryz.func52, Tryz.ntmps52
  go_wp2_with fail
  generalize (((w.alloc (.cells #[.int .i64 5, .int .i64 7, .int .i64 3, .slice (some ⟨b, off, none⟩) 3 c, .slice none 0 0] 25)).alloc (.cells #[.int .i64 0, .int .i64 0, .int .i64 0, .slice none 0 0, .slice none 0 0] 25)).alloc (.cells #[.int .i64 6, .int .i64 7, .int .i64 3, .slice none 0 0, .slice none 0 0] 25)) = W0 at HF HB hW0 ⊢
  go_loopw [21] (fun d wr => ∃ (k : Nat) (u : Value) (m : Nat) (xs : List Value), d = .int .i64 k ∧ k ≤ 3 ∧ m ≤ k ∧ FP w.heap.size #[.int .i64 5, .int .i64 7, .int .i64 3, .slice (some ⟨b, off, none⟩) 3 c, .slice none 0 0] 6 7 (qk k) u wr ∧ wr.ownsRow (w.heap.size + 3) 38 6 u m xs ∧ Below w.heap.size w wr ∧ w.heap.size + 3 ≤ wr.heap.size) (fun d _ => 3 - (intOf d).toNat)
  case atStart => exact ⟨0, _, _, _, rfl, by omega, Nat.le_refl _, HF.out, World.ownsRow_nil _ _ _ _, HB.out, by omega⟩
  obtain ⟨k, u, m, xs, rfl, hk, hm, hf, hown, hb, hsz⟩ := hrel
  obtain ⟨B1, n1, d1, rfl⟩ := own_sl hown
  have HO := Lib.hid hown
  have HFr := Lib.hid hf
  clear hown hf
  by_cases h1 : k < 3
  rotate_left
  · have h1' : ¬ (k : Int) < 3 := by omega
    obtain rfl : k = 3 := by omega
    have HFr := Lib.hid (show FP w.heap.size #[.int .i64 5, .int .i64 7, .int .i64 3, .slice (some ⟨b, off, none⟩) 3 c, .slice none 0 0] 6 7 5 (.slice B1 n1 d1) wr from HFr.out)
    have r3 := cell_of_heap HFr.out.1 4 _ rfl
    have r0 := cell_of_heap HFr.out.1 0 _ rfl
    have o0 := cell_of_heap HFr.out.2.2 0 _ rfl
    have o1 := cell_of_heap HFr.out.2.2 1 _ rfl
    have o2 := cell_of_heap HFr.out.2.2 2 _ rfl
    have o3 := cell_of_heap HFr.out.2.2 3 _ rfl
    have o4 := cell_of_heap HFr.out.2.2 4 _ rfl
    have s0 := cell_of_heap HFr.out.2.1 0 _ rfl
    have s1 := cell_of_heap HFr.out.2.1 1 _ rfl
    have s2 := cell_of_heap HFr.out.2.1 2 _ rfl
    have s3 := cell_of_heap HFr.out.2.1 3 _ rfl
    have s4 := cell_of_heap HFr.out.2.1 4 _ rfl
    have z0 := frozen_of HFr.out.2.1 0
    have z1 := frozen_of HFr.out.2.1 1
    have z2 := frozen_of HFr.out.2.1 2
    have z3 := frozen_of HFr.out.2.1 3
    have z4 := frozen_of HFr.out.2.1 4
    go_wp2_with fail
    refine wp_loop_rounds 1 ?_
    rw [rounds_succ]
    go_wp2_with fail
    have hh : (((((wr.setCell ⟨w.heap.size + 1, 0, none⟩ (.int .i64 6)).setCell ⟨w.heap.size + 1, 1, none⟩ (.int .i64 7)).setCell ⟨w.heap.size + 1, 2, none⟩ (.int .i64 5)).setCell ⟨w.heap.size + 1, 3, none⟩ (.slice B1 n1 d1)).setCell ⟨w.heap.size + 1, 4, none⟩ (.slice none 0 0)).heap[w.heap.size + 1]? = some (.cells #[.int .i64 6, .int .i64 7, .int .i64 5, .slice B1 n1 d1, .slice none 0 0] 25 (0, 0)) :=
      heap_set (heap_set (heap_set (heap_set (heap_set HFr.out.2.1 0 _) 1 _) 2 _) 3 _) 4 _
    refine bodyPost_ret (results_cell_row rfl _ _ (w.heap.size + 1) 25 _ (0, 0) _ rfl hh hu25 rfl Tryz_size25) rfl ?_
    exact ⟨_, _, _, rfl, ((((hb.setCell (by show w.heap.size ≤ w.heap.size + 1; omega) _).setCell (by show w.heap.size ≤ w.heap.size + 1; omega) _).setCell (by show w.heap.size ≤ w.heap.size + 1; omega) _).setCell (by show w.heap.size ≤ w.heap.size + 1; omega) _).setCell (by show w.heap.size ≤ w.heap.size + 1; omega) _⟩
  have h1' : (k : Int) < 3 := by omega
  have hq := (HA.out.below hb) k h1
  have o2 := cell_of_heap HFr.out.2.2 2 _ rfl
  have o3 := cell_of_heap HFr.out.2.2 3 _ rfl
  have z2 := frozen_of HFr.out.2.2 2
  by_cases h2 : k < 2
  rotate_left
  · have hq : AtT wr b (off + k * 6) ⟨6, 4, 1, ByteArray.empty, ByteArray.empty, ByteArray.empty⟩ := by rw [kt, if_neg h2] at hq; exact hq
    obtain ⟨q0, q1, q2, q3, q4, q5⟩ := hq
    have hX := heapA wr (.cells #[.int .i64 6, .int .i64 4, .int .i64 1, .string ByteArray.empty, .string ByteArray.empty, .string ByteArray.empty] 38)
    have x0 := cell_of_heap hX 0 _ rfl
    have x1 := cell_of_heap hX 1 _ rfl
    have x2 := cell_of_heap hX 2 _ rfl
    have x3 := cell_of_heap hX 3 _ rfl
    have x4 := cell_of_heap hX 4 _ rfl
    have x5 := cell_of_heap hX 5 _ rfl
    have hba := (Below.refl wr.heap.size wr).alloc (Nat.le_refl _) (.cells #[.int .i64 6, .int .i64 4, .int .i64 1, .string ByteArray.empty, .string ByteArray.empty, .string ByteArray.empty] 38)
    have HFa := Lib.hid (HFr.out.below hba hsz)
    have hbwa := below_then hb hb.size hba
    have p2 := cell_of_heap HFa.out.2.2 2 _ rfl
    have p3 := cell_of_heap HFa.out.2.2 3 _ rfl
    have y2 := frozen_of HFa.out.2.2 2
    clear hX hba o2 o3 z2
    obtain rfl : k = 2 := by omega
    have HW1 := heapA2 wr (.cells #[.int .i64 6, .int .i64 4, .int .i64 1, .string ByteArray.empty, .string ByteArray.empty, .string ByteArray.empty] 38) (.cells #[.int .i64 6, .int .i64 4, .int .i64 1, .string ByteArray.empty, .string ByteArray.empty, .string ByteArray.empty] 38)
    have HSRC := Lib.hid (cells_src HW1)
    clear HW1
    go_wp2_with (at_builtin; refine wpList_append_own _ rfl _ _ 22 rfl (w.heap.size + 3) 38 i38 _ 6 72 Tryz.underlying22 k1 k2 k3 k4 rfl (by decide) (.slice B1 n1 d1) m xs rfl ((HO.out.alloc _).alloc _) ⟨wr.heap.size + 1, 0, none⟩ 1 1 [.int .i64 6, .int .i64 4, .int .i64 1, .string ByteArray.empty, .string ByteArray.empty, .string ByteArray.empty] rfl rfl HSRC.out ?_ (by simp only [maxLen]; omega) (by omega) (by rw [sizeA, sizeA]; omega) ?_; (intro y hy; simp only [List.mem_cons, List.not_mem_nil, or_false] at hy; rcases hy with rfl | rfl | rfl | rfl | rfl | rfl <;> rfl); intro v' w3 hown' hgrow _; obtain ⟨B5, n5, d5, rfl⟩ := own_sl hown'; have hb3 := below_app2 HO.out hsz hgrow; have hf3 := HFr.out.below hb3 (Nat.le_refl _); have hc3 := cell_of_heap hf3.2.2 3 _ rfl; have hz3 := frozen_of hf3.2.2 3)
    go_round
    case rel =>
      exact ⟨3, _, _, _, rfl, by omega, by omega, hf3.setU _, setO_ownsK hown' (by omega) _ _, (hb.trans (below_of hb3 (by omega))).setCell (by show w.heap.size ≤ w.heap.size + 2; omega) _, by have := hb3.size; simp only [World.setCell, Array.size_modify]; omega⟩
    case measure => simp [intOf]
  have hq : AtT wr b (off + k * 6) ⟨5, 4, 1, ByteArray.empty, ByteArray.empty, ByteArray.empty⟩ := by rw [kt, if_pos h2] at hq; exact hq
  obtain ⟨q0, q1, q2, q3, q4, q5⟩ := hq
  have hX := heapA wr (.cells #[.int .i64 5, .int .i64 4, .int .i64 1, .string ByteArray.empty, .string ByteArray.empty, .string ByteArray.empty] 38)
  have x0 := cell_of_heap hX 0 _ rfl
  have x1 := cell_of_heap hX 1 _ rfl
  have x2 := cell_of_heap hX 2 _ rfl
  have x3 := cell_of_heap hX 3 _ rfl
  have x4 := cell_of_heap hX 4 _ rfl
  have x5 := cell_of_heap hX 5 _ rfl
  have hba := (Below.refl wr.heap.size wr).alloc (Nat.le_refl _) (.cells #[.int .i64 5, .int .i64 4, .int .i64 1, .string ByteArray.empty, .string ByteArray.empty, .string ByteArray.empty] 38)
  have HFa := Lib.hid (HFr.out.below hba hsz)
  have hbwa := below_then hb hb.size hba
  have p2 := cell_of_heap HFa.out.2.2 2 _ rfl
  have p3 := cell_of_heap HFa.out.2.2 3 _ rfl
  have y2 := frozen_of HFa.out.2.2 2
  clear hX hba o2 o3 z2
  have hqk := Lib.hid (qk_succ k h2)
  go_wp2_with fail
  go_round
  case rel => exact ⟨k + 1, _, _, _, by go_num, by omega, by omega, by rw [← hqk.out]; exact HFa.out.setQ _, setO_ownsK (HO.out.alloc _) (by omega) _ _, hbwa.setCell (by show w.heap.size ≤ w.heap.size + 2; omega) _, by simp only [World.setCell, Array.size_modify]; rw [sizeA]; omega⟩
  case measure => simp [intOf]; omega

end Go.Proofs.YtcbgngkalplafaaGreatDoor
