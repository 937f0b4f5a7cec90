/- The parts of known: At. -/
import Derived.Test.YtcbgngkalplafaaGreatDoorE1
import Derived.Deep.RegionHeld3
namespace Go.Proofs.YtcbgngkalplafaaGreatDoor
open Go.RowKit Go.Shelf Lin

set_option maxRecDepth 100000 in
set_option maxHeartbeats 8000000 in
theorem schedule_known (A : Option Addr) (m c : Nat) (w : World) :
    Calls Tryz.prog 51 #[.agg #[.int .i64 5, .int .i64 7, .int .i64 3, .slice A m c, .slice none 0 0], .int .i64 5] w fun e w' => e = .returned (.slice none 0 0) ∧ Below w.heap.size w w' := by
  have HB := Lib.hid ((Below.refl w.heap.size w).alloc (Nat.le_refl _) (.cells #[.int .i64 5, .int .i64 7, .int .i64 3, .slice A m c, .slice none 0 0] 25))
  have HH := Lib.hid (heapA w (.cells #[.int .i64 5, .int .i64 7, .int .i64 3, .slice A m c, .slice none 0 0] 25))
  go_enter Tryz.func51, Tryz.ntmps51
  go_wp2_with fail
  refine (has49 5 7 3 5 _ _ _ _ _ _ true rfl _).mono ?_
  rintro e w1 ⟨rfl, hb1⟩
  have hS := (hb1.block w.heap.size (by rw [sizeA]; omega)).trans HH.out
  have k0 := cell_of_heap hS 0 _ rfl
  have k4 := cell_of_heap hS 4 _ rfl
  have hbw := below_then HB.out HB.out.size hb1
  go_wp2_with fail
  go_ret
  exact ⟨rfl, hbw⟩

/-- The cells of an input of the example. -/
def inCells : List Value := [.int .i64 4, .int .i64 1, .string ByteArray.empty, .string ByteArray.empty, .string ByteArray.empty]
def insK : Nat → List Value
  | 0 => []
  | n + 1 => insK n ++ inCells
theorem Tryz_info36 : (Tryz.prog.info? 36).map (fun i => (i.zero, i.size, i.bytes)) = some (some (.agg #[.int .i64 0, .int .i64 0, .string ⟨#[]⟩, .string ⟨#[]⟩, .string ⟨#[]⟩]), 5, 64) := by kernel_rfl

theorem w4 (k : Nat) (h : k < 2) : wrap64 (wrap64 (3 + (k : Int)) + 1) = 4 + (k : Int) := by
  have h1 : wrap64 (3 + (k : Int)) = 3 + (k : Int) := by unfold wrap64; omega
  rw [h1]
  unfold wrap64; omega
theorem grown_at {W W' : World} {row : Option Nat} (hg : W.grownBy W' row) {b : Nat} {o : Obj} (h : W.heap[b]? = some o) (hr : ∀ k, row = some k → k < b) : W'.heap[b]? = some o :=
  (hg.block b (Array.getElem?_eq_some_iff.1 h).1 (fun e => by have := hr b e.symm; omega)).trans h
theorem onHeap {W W' : World} {base n : Nat} {e : TypeId} {size : Nat} {v : Value} {xs : List Value} (h : W.ownsRow base e size v n xs) (hh : W'.heap = W.heap) : W'.ownsRow base e size v n xs := by
  refine ⟨h.1, ?_⟩
  rw [hh]
  exact h.2
theorem kept1 {W Wx W' : World} {base n : Nat} {e : TypeId} {size : Nat} {v : Value} {xs : List Value} {row : Option Nat} {o : Obj} (h : W.ownsRow base e size v n xs) (hg : Wx.grownBy W' row) (hx : Wx.heap = W.heap.push o) (hne : v.ownBlock = none ∨ v.ownBlock ≠ row) : W'.ownsRow base e size v n xs :=
  (onHeap (h.alloc o) hx).kept hg hne
theorem kept2 {W Wx W' : World} {base n : Nat} {e : TypeId} {size : Nat} {v : Value} {xs : List Value} {row : Option Nat} {o o' : Obj} (h : W.ownsRow base e size v n xs) (hg : Wx.grownBy W' row) (hx : Wx.heap = (W.heap.push o).push o') (hne : v.ownBlock = none ∨ v.ownBlock ≠ row) : W'.ownsRow base e size v n xs :=
  (onHeap ((h.alloc o).alloc o') hx).kept hg hne
theorem own_ne {W : World} {B C n m s t : Nat} {e e' : TypeId} {u v : Value} {xs ys : List Value} (hu : W.ownsRow B e s u n xs) (hv : W.ownsRow C e' t v m ys) (hne : e ≠ e') : u.ownBlock = none ∨ u.ownBlock ≠ v.ownBlock := by
  rcases hu.2 with ⟨rfl, _⟩ | ⟨g, c, cur, rfl, _, hg, _⟩
  · exact .inl rfl
  · right
    rcases hv.2 with ⟨rfl, _⟩ | ⟨g', c', cur', rfl, _, hg', _⟩
    · simp [Value.ownBlock]
    · simp only [Value.ownBlock, ne_eq, Option.some.injEq]
      rintro rfl
      rw [hg] at hg'
      cases hg'
      exact hne rfl
theorem cells_src {W : World} {b : Nat} {cs : Array Value} {e : TypeId} {fr : Nat × Nat} (h : W.heap[b]? = some (.cells cs e fr)) : ∀ j u, cs.toList[j]? = some u → W.cell? ((⟨b, 0, none⟩ : Addr).add j) = some u := by
  intro j u hu
  have := cell_of_heap h j u (by rwa [Array.getElem?_toList] at hu)
  unfold Addr.add
  split
  · rename_i h0; subst h0; exact this
  · simpa using this
/-- What At's round holds: the script's box, the input's box, all that lay. -/
def HS (B b1 b2 : Nat) (cs1 cs2 : Array Value) (w1 W : World) : Prop :=
  W.heap[b1]? = some (.cells cs1 25 (0, 0)) ∧ W.heap[b2]? = some (.cells cs2 38 (0, 0)) ∧ Below B w1 W ∧ b2 < W.heap.size
theorem HS.drawn {B b1 b2 : Nat} {cs1 cs2 : Array Value} {w1 W : World} (h : HS B b1 b2 cs1 cs2 w1 W) : HS B b1 b2 cs1 cs2 w1 W.drew := ⟨h.1, h.2.1, bdrew1 h.2.2.1, h.2.2.2⟩
theorem HS_cells {B b1 b2 : Nat} {a0 a1 a2 a3 a4 c0 c1 c2 c3 c4 c5 : Value} {w1 W : World} (h : HS B b1 b2 #[a0, a1, a2, a3, a4] #[c0, c1, c2, c3, c4, c5] w1 W) :
    W.cell? ⟨b1, 2, none⟩ = some a2 ∧ W.cell? ⟨b2, 1, none⟩ = some c1 ∧ W.cell? ⟨b2, 2, none⟩ = some c2 ∧ W.cell? ⟨b2, 3, none⟩ = some c3 ∧ W.cell? ⟨b2, 4, none⟩ = some c4 ∧ W.cell? ⟨b2, 5, none⟩ = some c5 ∧ HS B b1 b2 #[a0, a1, a2, a3, a4] #[c0, c1, c2, c3, c4, c5] w1 W :=
  ⟨cell_of_heap h.1 2 _ rfl, cell_of_heap h.2.1 1 _ rfl, cell_of_heap h.2.1 2 _ rfl, cell_of_heap h.2.1 3 _ rfl, cell_of_heap h.2.1 4 _ rfl, cell_of_heap h.2.1 5 _ rfl, h⟩
theorem HS.alloc {B b1 b2 : Nat} {cs1 cs2 : Array Value} {w1 W : World} (h : HS B b1 b2 cs1 cs2 w1 W) (hB : B ≤ W.heap.size) (o : Obj) : HS B b1 b2 cs1 cs2 w1 (W.alloc o) := by
  obtain ⟨h1, h2, h3, h4⟩ := h
  refine ⟨?_, ?_, h3.alloc hB o, by rw [sizeA]; omega⟩
  · rw [Below.heap_alloc _ _ _ (Array.getElem?_eq_some_iff.1 h1).1]; exact h1
  · rw [Below.heap_alloc _ _ _ h4]; exact h2
theorem HS.grown {B b1 b2 : Nat} {cs1 cs2 : Array Value} {w1 W W' : World} (h : HS B b1 b2 cs1 cs2 w1 W) (hB : B ≤ W.heap.size) (hb1 : b1 < B) {row : Option Nat} (hg : W.grownBy W' row) (hr : ∀ k, row = some k → B ≤ k ∧ k ≠ b2) : HS B b1 b2 cs1 cs2 w1 W' := by
  obtain ⟨h1, h2, h3, h4⟩ := h
  refine ⟨?_, ?_, h3.grown hg hB fun k hk => (hr k hk).1, Nat.lt_of_lt_of_le h4 hg.size⟩
  · exact (hg.block b1 (by omega) (fun e => by have := (hr b1 e.symm).1; omega)).trans h1
  · exact (hg.block b2 h4 (fun e => (hr b2 e.symm).2 rfl)).trans h2

theorem HS_below {B b1 b2 : Nat} {a0 a1 a2 a3 a4 c0 c1 c2 c3 c4 c5 : Value} {w1 W : World} (h : W.cell? ⟨b1, 2, none⟩ = some a2 ∧ W.cell? ⟨b2, 1, none⟩ = some c1 ∧ W.cell? ⟨b2, 2, none⟩ = some c2 ∧ W.cell? ⟨b2, 3, none⟩ = some c3 ∧ W.cell? ⟨b2, 4, none⟩ = some c4 ∧ W.cell? ⟨b2, 5, none⟩ = some c5 ∧ HS B b1 b2 #[a0, a1, a2, a3, a4] #[c0, c1, c2, c3, c4, c5] w1 W) : Below B w1 W := h.2.2.2.2.2.2.2.2.1
theorem HS_next {B b1 b2 : Nat} {a0 a1 a2 a3 a4 c0 c1 c2 c3 c4 c5 : Value} {w1 W : World} {o : Obj} (h : W.cell? ⟨b1, 2, none⟩ = some a2 ∧ W.cell? ⟨b2, 1, none⟩ = some c1 ∧ W.cell? ⟨b2, 2, none⟩ = some c2 ∧ W.cell? ⟨b2, 3, none⟩ = some c3 ∧ W.cell? ⟨b2, 4, none⟩ = some c4 ∧ W.cell? ⟨b2, 5, none⟩ = some c5 ∧ HS B b1 b2 #[a0, a1, a2, a3, a4] #[c0, c1, c2, c3, c4, c5] w1 W) (hB : B ≤ b2) : (W.alloc o).cell? ⟨b1, 2, none⟩ = some a2 ∧ (W.alloc o).cell? ⟨b2, 1, none⟩ = some c1 ∧ (W.alloc o).cell? ⟨b2, 2, none⟩ = some c2 ∧ (W.alloc o).cell? ⟨b2, 3, none⟩ = some c3 ∧ (W.alloc o).cell? ⟨b2, 4, none⟩ = some c4 ∧ (W.alloc o).cell? ⟨b2, 5, none⟩ = some c5 ∧ HS B b1 b2 #[a0, a1, a2, a3, a4] #[c0, c1, c2, c3, c4, c5] w1 (W.alloc o) :=
  HS_cells (h.2.2.2.2.2.2.alloc (by have := h.2.2.2.2.2.2.2.2.2; omega) o)
theorem HS_grown {B b1 b2 : Nat} {a0 a1 a2 a3 a4 c0 c1 c2 c3 c4 c5 : Value} {w1 W W' : World} (h : W.cell? ⟨b1, 2, none⟩ = some a2 ∧ W.cell? ⟨b2, 1, none⟩ = some c1 ∧ W.cell? ⟨b2, 2, none⟩ = some c2 ∧ W.cell? ⟨b2, 3, none⟩ = some c3 ∧ W.cell? ⟨b2, 4, none⟩ = some c4 ∧ W.cell? ⟨b2, 5, none⟩ = some c5 ∧ HS B b1 b2 #[a0, a1, a2, a3, a4] #[c0, c1, c2, c3, c4, c5] w1 W) (hB : B ≤ b2) (hb1 : b1 < B) {row : Option Nat} (hg : W.grownBy W' row) (hr : ∀ k, row = some k → B ≤ k ∧ k ≠ b2) : W'.cell? ⟨b1, 2, none⟩ = some a2 ∧ W'.cell? ⟨b2, 1, none⟩ = some c1 ∧ W'.cell? ⟨b2, 2, none⟩ = some c2 ∧ W'.cell? ⟨b2, 3, none⟩ = some c3 ∧ W'.cell? ⟨b2, 4, none⟩ = some c4 ∧ W'.cell? ⟨b2, 5, none⟩ = some c5 ∧ HS B b1 b2 #[a0, a1, a2, a3, a4] #[c0, c1, c2, c3, c4, c5] w1 W' :=
  HS_cells (h.2.2.2.2.2.2.grown (by have := h.2.2.2.2.2.2.2.2.2; omega) hb1 hg hr)

set_option maxRecDepth 100000 in
set_option maxHeartbeats 8000000 in
theorem at_known (b off c : Nat) (w : World) (hc : 3 ≤ c) (hc2 : c ≤ 9223372036854775807) (hA : KIn w b off) :
    Calls Tryz.prog 25 #[.agg #[.int .i64 5, .int .i64 7, .int .i64 3, .slice (some ⟨b, off, none⟩) 3 c, .slice none 0 0], .int .i64 5] w fun e w' => ∃ v1 v2 v3, e = .returned (.tuple #[v1, v2, v3]) ∧ Rd (Value.int .i64) w' v1 [4, 5] ∧ Below w.heap.size w w' := by
  obtain ⟨i3, j1, j2, j3, j4⟩ := info_parts Tryz_info3
  obtain ⟨i36, k1, k2, k3, k4⟩ := info_parts Tryz_info36
  have HB := Lib.hid ((Below.refl w.heap.size w).alloc (Nat.le_refl _) (.cells #[.int .i64 5, .int .i64 7, .int .i64 3, .slice (some ⟨b, off, none⟩) 3 c, .slice none 0 0] 25))
  have HH := Lib.hid (heapA w (.cells #[.int .i64 5, .int .i64 7, .int .i64 3, .slice (some ⟨b, off, none⟩) 3 c, .slice none 0 0] 25))
  have HA := Lib.hid hA
  have hW0 : (w.alloc (.cells #[.int .i64 5, .int .i64 7, .int .i64 3, .slice (some ⟨b, off, none⟩) 3 c, .slice none 0 0] 25)).heap.size = w.heap.size + 1 := sizeA _ _
  clear hA
  go_enter Tryz.func25, Tryz.ntmps25
  go_wp2_with fail
  generalize w.alloc (.cells #[.int .i64 5, .int .i64 7, .int .i64 3, .slice (some ⟨b, off, none⟩) 3 c, .slice none 0 0] 25) = W0 at HB HH hW0 ⊢
  refine (has49 5 7 3 5 _ _ _ _ _ _ true rfl _).mono ?_
  rintro e w1 ⟨rfl, hb1⟩
  have hS := (hb1.block w.heap.size (by omega)).trans HH.out
  have g3 := cell_of_heap hS 3 _ rfl
  go_wp2_with fail
  have hsz1 := hb1.size
  go_loopw [4, 5, 16] (fun a d q wr => ∃ (k : Nat) (u v : Value), a = u ∧ d = v ∧ q = .int .i64 k ∧ k ≤ 3 ∧ wr.ownsRow w1.heap.size 3 1 u (min k 2) ((([4, 5] : List Int).take k).map (Value.int .i64)) ∧ wr.ownsRow w1.heap.size 36 5 v (min k 2) (insK (min k 2)) ∧ Below w1.heap.size w1 wr) (fun _ _ q _ => 3 - (intOf q).toNat)
  case atStart => exact ⟨0, _, _, rfl, rfl, rfl, by omega, World.ownsRow_nil _ _ _ _, World.ownsRow_nil _ _ _ _, Below.refl _ _⟩
  obtain ⟨k, u, v, rfl, rfl, rfl, hk, hu, hv, hb⟩ := hrel
  have hbw := (HB.out.trans (below_of hb1 (by omega))).trans (below_of hb (by omega))
  have hsz := hb.size
  have HHr := Lib.hid ((hb.block w.heap.size (by omega)).trans hS)
  obtain ⟨B1, n1, d1, rfl⟩ := own_sl hu
  obtain ⟨B2, n2, d2, rfl⟩ := own_sl hv
  have HU := Lib.hid hu
  have HV := Lib.hid hv
  clear hu hv g3
  by_cases h1 : k < 3
  rotate_left
  · have h1' : ¬ (k : Int) < 3 := by omega
    obtain rfl : k = 3 := by omega
    have r0 := cell_of_heap HHr.out 0 _ rfl
    have r1 := cell_of_heap HHr.out 1 _ rfl
    have r2 := cell_of_heap HHr.out 2 _ rfl
    have r3 := cell_of_heap HHr.out 3 _ rfl
    have r4 := cell_of_heap HHr.out 4 _ rfl
    have HR := Lib.hid (Rd.of_own (e := 3) (l := [4, 5]) HU.out)
    go_wp2_with fail
    refine (schedule_known _ _ _ _).mono ?_
    rintro e w5 ⟨rfl, hb5⟩
    go_wp2_with fail
    refine (clone_any [] (by simp) _ w5 (Rd.nil 0 (.inl rfl))).mono ?_
    rintro e w6 ⟨v6, rfl, -, hb6⟩
    have hb56 := below_then hb5 hb5.size hb6
    have HR6 := HR.out.below hb56
    have hbw6 := below_then hbw hbw.size hb56
    go_wp2_with fail
    go_ret3
    exact ⟨_, _, _, rfl, HR6, hbw6⟩
  have h1' : (k : Int) < 3 := by omega
  have hq := (HA.out.below hbw) k h1
  have r2 := cell_of_heap HHr.out 2 _ rfl
  by_cases h2 : k < 2
  rotate_left
  · have hq : AtT wr b (off + k * 6) ⟨6, 4, 1, ByteArray.empty, ByteArray.empty, ByteArray.empty⟩ := by rw [kt, if_neg h2] at hq; exact hq
    obtain ⟨q0, q1, q2, q3, q4, q5⟩ := hq
    obtain rfl : k = 2 := by omega
    go_wp2_with fail
    go_round
    case rel => exact ⟨3, _, _, rfl, rfl, rfl, by omega, HU.out.alloc _, HV.out.alloc _, hb.alloc hsz _⟩
    case measure => simp [intOf]
  have hq : AtT wr b (off + k * 6) ⟨5, 4, 1, ByteArray.empty, ByteArray.empty, ByteArray.empty⟩ := by rw [kt, if_pos h2] at hq; exact hq
  obtain ⟨q0, q1, q2, q3, q4, q5⟩ := hq
  go_wp2_with fail
  have HX := heapA wr (.cells #[.int .i64 5, .int .i64 4, .int .i64 1, .string ByteArray.empty, .string ByteArray.empty, .string ByteArray.empty] 38)
  have hW1 : (wr.alloc (.cells #[.int .i64 5, .int .i64 4, .int .i64 1, .string ByteArray.empty, .string ByteArray.empty, .string ByteArray.empty] 38)).heap.size = wr.heap.size + 1 := sizeA _ _
  have hltu := Lib.hid fun k hk => (HU.out.lt k hk).2
  have hltv := Lib.hid fun k hk => (HV.out.lt k hk).2
  have HU1 := Lib.hid (HU.out.alloc (.cells #[.int .i64 5, .int .i64 4, .int .i64 1, .string ByteArray.empty, .string ByteArray.empty, .string ByteArray.empty] 38))
  have HV1 := Lib.hid (HV.out.alloc (.cells #[.int .i64 5, .int .i64 4, .int .i64 1, .string ByteArray.empty, .string ByteArray.empty, .string ByteArray.empty] 38))
  have HS0 := Lib.hid (show HS w1.heap.size w.heap.size wr.heap.size #[.int .i64 5, .int .i64 7, .int .i64 3, .slice (some ⟨b, off, none⟩) 3 c, .slice none 0 0] #[.int .i64 5, .int .i64 4, .int .i64 1, .string ByteArray.empty, .string ByteArray.empty, .string ByteArray.empty] w1 (wr.alloc (.cells #[.int .i64 5, .int .i64 4, .int .i64 1, .string ByteArray.empty, .string ByteArray.empty, .string ByteArray.empty] 38)) from ⟨(Below.heap_alloc _ _ _ (by omega)).trans HHr.out, HX, hb.alloc hsz _, by omega⟩)
  have hrow1 := Lib.hid (show ∀ k, (Value.slice B1 n1 d1).ownBlock = some k → w1.heap.size ≤ k ∧ k ≠ wr.heap.size from fun k hk => ⟨(HU.out.lt k hk).1, Nat.ne_of_lt (HU.out.lt k hk).2⟩)
  have hrow2 := Lib.hid (show ∀ k, (Value.slice B2 n2 d2).ownBlock = some k → w1.heap.size ≤ k ∧ k ≠ wr.heap.size from fun k hk => ⟨(HV.out.lt k hk).1, Nat.ne_of_lt (HV.out.lt k hk).2⟩)
  have hne := Lib.hid (own_ne HV.out HU.out (by decide))
  have hlt0 : w.heap.size < w1.heap.size := by omega
  have HK := Lib.hid (show IntKind.i64.wrap (IntKind.i64.wrap (3 + (k : Int)) + 1) = 4 + (k : Int) by rw [i64_wrap, i64_wrap]; exact w4 k h2)
  clear HX HU HV q0 q1 q2 q3 q4 q5 r2
  generalize wr.alloc (.cells #[.int .i64 5, .int .i64 4, .int .i64 1, .string ByteArray.empty, .string ByteArray.empty, .string ByteArray.empty] 38) = W1 at HU1 HV1 HS0 hW1 ⊢
  go_region_held3 (fun W => W.cell? ⟨w.heap.size, 2, none⟩ = some (.int .i64 3) ∧ W.cell? ⟨wr.heap.size, 1, none⟩ = some (.int .i64 4) ∧ W.cell? ⟨wr.heap.size, 2, none⟩ = some (.int .i64 1) ∧ W.cell? ⟨wr.heap.size, 3, none⟩ = some (.string ByteArray.empty) ∧ W.cell? ⟨wr.heap.size, 4, none⟩ = some (.string ByteArray.empty) ∧ W.cell? ⟨wr.heap.size, 5, none⟩ = some (.string ByteArray.empty) ∧ HS w1.heap.size w.heap.size wr.heap.size #[.int .i64 5, .int .i64 7, .int .i64 3, .slice (some ⟨b, off, none⟩) 3 c, .slice none 0 0] #[.int .i64 5, .int .i64 4, .int .i64 1, .string ByteArray.empty, .string ByteArray.empty, .string ByteArray.empty] w1 W)
    (first
      | exact HS_cells HS0.out.drawn
      | exact HS_next (by assumption) hsz
      | exact HS_grown (by assumption) hsz hlt0 hg2 hrow2.out
      | exact HS_grown (by assumption) hsz hlt0 hg1 hrow1.out)
    (first
      | (rw [if_pos (by rfl)]; refine wp_append_own _ _ _ 26 rfl w1.heap.size 3 i3 (.int .i64 0) 1 8 Tryz.underlying26 j1 j2 j3 j4 rfl (by decide) (.slice B1 n1 d1) (min k 2) ((([4, 5] : List Int).take k).map (Value.int .i64)) rfl ?_ _ 1 1 [.int .i64 (IntKind.i64.wrap (IntKind.i64.wrap (3 + (k : Int)) + 1))] rfl rfl ?_ ?_ ?_ ?_ ?_ ?_; (first | exact HU1.out.alloc _ | exact (HU1.out.alloc _).alloc _); (refine cells_src (cs := #[.int .i64 (IntKind.i64.wrap (IntKind.i64.wrap (3 + (k : Int)) + 1))]) (e := 3) (fr := (0, 0)) ?_; rw [← hW1]; (first | exact heap_at1 rfl | exact heap_at2 rfl | exact heap_at3 rfl)); (intro y hy; rw [List.mem_singleton.1 hy]; rfl); (simp only [maxLen]; omega); omega; (simp; omega); intro u2 w2 hown1 hg1 _; have HV2 : w2.ownsRow w1.heap.size 36 5 (.slice B2 n2 d2) (min k 2) (insK (min k 2)) := (by first | exact kept1 HV1.out hg1 rfl hne.out | exact kept2 HV1.out hg1 rfl hne.out))
      | (rw [if_pos (by rfl)]; refine wp_append_own _ _ _ 53 rfl w1.heap.size 36 i36 _ 5 64 Tryz.underlying53 k1 k2 k3 k4 rfl (by decide) (.slice B2 n2 d2) (min k 2) (insK (min k 2)) rfl ?_ _ 1 1 inCells rfl rfl ?_ ?_ ?_ ?_ ?_ ?_; (first | exact HV2 | exact HV2.alloc _); (refine cells_src (cs := inCells.toArray) (e := 36) (fr := (0, 0)) ?_; (first | exact heap_at1 rfl | (rw [← hW1]; refine grown_at hg1 ?_ ?_; (first | exact heap_at2 rfl | exact heap_at3 rfl); (intro q hq; have := hltu.out q hq; omega)))); (intro y hy; simp only [inCells, List.mem_cons, List.not_mem_nil, or_false] at hy; rcases hy with rfl | rfl | rfl | rfl | rfl <;> rfl); (simp only [maxLen]; omega); omega; (have hq := hg1.size; simp at hq ⊢; omega); intro v2 w3 hown2 hg2 _))
  all_goals
    have HU3 : w3.ownsRow w1.heap.size 3 1 u2 (min k 2 + 1) ((([4, 5] : List Int).take k).map (Value.int .i64) ++ [.int .i64 (IntKind.i64.wrap (IntKind.i64.wrap (3 + (k : Int)) + 1))]) := by
      first
        | exact hown1.kept hg2 (own_ne hown1 HV2 (by decide))
        | exact kept1 hown1 hg2 rfl (own_ne hown1 HV2 (by decide))
    have hbf := HS_below (by assumption)
    go_wp2_with fail
    go_round
    case rel =>
      refine ⟨k + 1, _, _, rfl, rfl, by go_num, by omega, ?_, ?_, hbf⟩
      · have h9 := HU3
        rw [HK.out] at h9
        rcases (by omega : k = 0 ∨ k = 1) with rfl | rfl
        · exact h9
        · exact h9
      · have h9 := hown2
        rcases (by omega : k = 0 ∨ k = 1) with rfl | rfl
        · exact h9
        · exact h9
    case measure => simp [intOf]; omega
end Go.Proofs.YtcbgngkalplafaaGreatDoor
