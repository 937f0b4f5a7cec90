/- The parts of known: what the law's own example computes. -/
import Derived.Test.YtcbgngkalplafaaGreatDoorD6
namespace Go.Proofs.YtcbgngkalplafaaGreatDoor
open Go.RowKit Go.Shelf Lin

set_option maxRecDepth 100000 in
set_option maxHeartbeats 8000000 in
theorem formed_known (w : World) : Calls Tryz.prog 57 #[.agg #[.int .i64 4, .int .i64 1, .string ByteArray.empty, .string ByteArray.empty, .string ByteArray.empty]] w fun e w' => e = .returned (.bool true) ∧ Below w.heap.size w w' := by
  have hb := ((Below.refl w.heap.size w).alloc (Nat.le_refl _) (.cells #[.int .i64 4, .int .i64 1, .string ByteArray.empty, .string ByteArray.empty, .string ByteArray.empty] 36)).alloc (by rw [sizeA]; omega) (.cells #[.int .i64 4, .int .i64 0, .string ByteArray.empty, .string ByteArray.empty, .string ByteArray.empty] 36)
  go_enter Tryz.func57, Tryz.ntmps57
  go_wp2_with fail
  go_ret
  exact ⟨rfl, hb⟩

set_option maxRecDepth 100000 in
set_option maxHeartbeats 8000000 in
theorem check_known (w : World) : Calls Tryz.prog 30 #[.agg #[.int .i64 4, .int .i64 1, .string ByteArray.empty, .string ByteArray.empty, .string ByteArray.empty]] w fun e w' => e = .returned (.int .i64 0) ∧ Below w.heap.size w w' := by
  have HB := Lib.hid ((Below.refl w.heap.size w).alloc (Nat.le_refl _) (.cells #[.int .i64 4, .int .i64 1, .string ByteArray.empty, .string ByteArray.empty, .string ByteArray.empty] 36))
  go_enter Tryz.func30, Tryz.ntmps30
  go_wp2_with fail
  refine (formed_known _).mono ?_
  rintro e w1 ⟨rfl, hb1⟩
  have hbw := below_then HB.out HB.out.size hb1
  have hh := (hb1.block w.heap.size (by rw [sizeA]; omega)).trans (heapA w (.cells #[.int .i64 4, .int .i64 1, .string ByteArray.empty, .string ByteArray.empty, .string ByteArray.empty] 36))
  have hk0 := cell_of_heap hh 0 _ rfl
  have hk1 := cell_of_heap hh 1 _ rfl
  go_wp2_with fail
  refine (within3_any 1 1 1073741824 w1).mono ?_
  rintro e w2 ⟨rfl, hb2⟩
  have hbw2 := below_then hbw hbw.size hb2
  go_wp2_with fail
  go_ret
  exact ⟨rfl, hbw2⟩

def tk (t : Int) : Tm := ⟨t, 4, 1, ByteArray.empty, ByteArray.empty, ByteArray.empty⟩
def ks : Scr := ⟨5, 7, 3, [tk 5, tk 5, tk 6], []⟩

set_option maxRecDepth 100000 in
set_option maxHeartbeats 8000000 in
theorem has49 (f t b n : Int) (A A' : Option Addr) (m c m' c' : Nat) (r : Bool) (hr : (decide (f ≤ n) && decide (n < t)) = r) (w : World) : Calls Tryz.prog 49 #[.agg #[.int .i64 f, .int .i64 t, .int .i64 b, .slice A m c, .slice A' m' c'], .int .i64 n] w fun e w' => e = .returned (.bool r) ∧ Below w.heap.size w w' := by
  have HQ := Lib.hid hr
  have HB := Lib.hid ((Below.refl w.heap.size w).alloc (Nat.le_refl _) (.cells #[.int .i64 f, .int .i64 t, .int .i64 b, .slice A m c, .slice A' m' c'] 25))
  clear hr
  by_cases h1 : f ≤ n
  · by_cases h2 : n < t
    · have HR := Lib.hid (show r = true by rw [← HQ.out]; simp [h1, h2])
      go_enter Tryz.func49, Tryz.ntmps49
      go_wp2_with fail
      go_ret
      exact ⟨by rw [HR.out]; rfl, HB.out⟩
    · have HR := Lib.hid (show r = false by rw [← HQ.out]; simp [h2])
      go_enter Tryz.func49, Tryz.ntmps49
      go_wp2_with fail
      go_ret
      exact ⟨by rw [HR.out]; rfl, HB.out⟩
  · have HR := Lib.hid (show r = false by rw [← HQ.out]; simp [h1])
    go_enter Tryz.func49, Tryz.ntmps49
    go_wp2_with fail
    go_ret
    exact ⟨by rw [HR.out]; rfl, HB.out⟩

def kt (k : Nat) : Int := if k < 2 then 5 else 6
theorem kt_range (k : Nat) : 5 ≤ kt k ∧ kt k ≤ 6 := by unfold kt; split <;> omega
theorem kt_mono (k : Nat) : kt k ≤ kt (k + 1) := by unfold kt; split <;> split <;> omega
/-- The example's three inputs lie in block b. -/
def KIn (w : World) (b off : Nat) : Prop := ∀ k, k < 3 → AtT w b (off + k * 6) (tk (kt k))
theorem KIn.below {w w' : World} {b off : Nat} (h : KIn w b off) (hb : Below w.heap.size w w') : KIn w' b off := fun k hk => (h k hk).below hb

set_option maxRecDepth 100000 in
set_option maxHeartbeats 8000000 in
theorem scriptCheck_known (b off c : Nat) (w : World) (hc : 3 ≤ c) (hc2 : c ≤ 9223372036854775807) (hA : KIn w b off) :
    Calls Tryz.prog 27 #[.agg #[.int .i64 5, .int .i64 7, .int .i64 3, .slice (some ⟨b, off, none⟩) 3 c, .slice none 0 0]] w fun e w' => e = .returned (.int .i64 0) ∧ Below w.heap.size w w' := by
  have HB := Lib.hid ((Below.refl w.heap.size w).alloc (Nat.le_refl _) (.cells #[.int .i64 5, .int .i64 7, .int .i64 3, .slice (some ⟨b, off, none⟩) 3 c, .slice none 0 0] 25))
  have HH := Lib.hid (heapA w (.cells #[.int .i64 5, .int .i64 7, .int .i64 3, .slice (some ⟨b, off, none⟩) 3 c, .slice none 0 0] 25))
  have HA := Lib.hid hA
  have hW0 : (w.alloc (.cells #[.int .i64 5, .int .i64 7, .int .i64 3, .slice (some ⟨b, off, none⟩) 3 c, .slice none 0 0] 25)).heap.size = w.heap.size + 1 := sizeA _ _
  clear hA
  go_enter Tryz.func27, Tryz.ntmps27
  go_wp2_with fail
  generalize w.alloc (.cells #[.int .i64 5, .int .i64 7, .int .i64 3, .slice (some ⟨b, off, none⟩) 3 c, .slice none 0 0] 25) = W0 at HB HH hW0 ⊢
  go_loopw [3, 68] (fun a d wr => ∃ (k : Nat) (L : Int), a = .int .i64 L ∧ d = .int .i64 k ∧ k ≤ 3 ∧ 5 ≤ L ∧ L ≤ kt k ∧ Below W0.heap.size W0 wr) (fun _ d _ => 3 - (intOf d).toNat)
  case atStart => exact ⟨0, 5, rfl, rfl, by omega, by omega, by decide, Below.refl _ _⟩
  case round =>
    obtain ⟨k, L, rfl, rfl, hk, hL, hL2, hb⟩ := hrel
    have hbw := HB.out.trans (below_of hb (by omega))
    have hsz := hb.size
    have HHr := Lib.hid ((hb.block w.heap.size (by omega)).trans HH.out)
    by_cases h1 : k < 3
    · have h1' : (k : Int) < 3 := by omega
      have hq := (HA.out.below hbw) k h1
      have hr := kt_range k
      have hm := Lib.hid (kt_mono k)
      generalize kt k = t at hq hr hm hL2
      have hq : AtT wr b (off + k * 6) ⟨t, 4, 1, ByteArray.empty, ByteArray.empty, ByteArray.empty⟩ := hq
      obtain ⟨q0, q1, q2, q3, q4, q5⟩ := hq
      have hba := (Below.refl wr.heap.size wr).alloc (Nat.le_refl _) (.cells #[.int .i64 t, .int .i64 4, .int .i64 1, .string ByteArray.empty, .string ByteArray.empty, .string ByteArray.empty] 38)
      have hX := heapA wr (.cells #[.int .i64 t, .int .i64 4, .int .i64 1, .string ByteArray.empty, .string ByteArray.empty, .string ByteArray.empty] 38)
      have hS := (hba.block w.heap.size (by omega)).trans HHr.out
      have k0 := cell_of_heap hS 0 _ rfl
      have k1 := cell_of_heap hS 1 _ rfl
      have k2 := cell_of_heap hS 2 _ rfl
      have k3 := cell_of_heap hS 3 _ rfl
      have k4 := cell_of_heap hS 4 _ rfl
      have x0 := cell_of_heap hX 0 _ rfl
      have HXX := Lib.hid hX
      have HSS := Lib.hid hS
      have hbwa := Lib.hid (below_then hb hb.size hba)
      clear hX hS hba
      go_wp2_with fail
      refine (has49 5 7 3 t _ _ _ _ _ _ true (by simp; omega) _).mono ?_
      rintro e w1 ⟨rfl, hb1⟩
      have hX1 := (hb1.block wr.heap.size (by rw [sizeA]; omega)).trans HXX.out
      have y0 := cell_of_heap hX1 0 _ rfl
      have y1 := cell_of_heap hX1 1 _ rfl
      have y2 := cell_of_heap hX1 2 _ rfl
      have y3 := cell_of_heap hX1 3 _ rfl
      have y4 := cell_of_heap hX1 4 _ rfl
      have y5 := cell_of_heap hX1 5 _ rfl
      have HX1 := Lib.hid hX1
      have HS1 := Lib.hid ((hb1.block w.heap.size (by rw [sizeA]; omega)).trans HSS.out)
      have hbw1 := Lib.hid (below_then hbwa.out hbwa.out.size hb1)
      clear hX1 k0 k1 k2 k3 k4 x0
      go_wp2_with fail
      refine (check_known _).mono ?_
      rintro e w2 ⟨rfl, hb2⟩
      have z0 := cell_of_heap ((hb2.block wr.heap.size (by have := hb1.size; rw [sizeA] at this; omega)).trans HX1.out) 0 _ rfl
      clear y0 y1 y2 y3 y4 y5
      go_wp2_with fail
      go_round
      case rel => exact ⟨k + 1, t, rfl, by go_num, by omega, by omega, hm.out, below_then hbw1.out hbw1.out.size hb2⟩
      case measure => simp [intOf]; omega
    · have h1' : ¬ (k : Int) < 3 := by omega
      obtain rfl : k = 3 := by omega
      have k4 := cell_of_heap HHr.out 4 _ rfl
      go_wp2_with fail
      refine wp_loop_rounds 1 ?_
      rw [rounds_succ]
      go_wp2_with fail
      go_ret
      exact ⟨rfl, hbw⟩
end Go.Proofs.YtcbgngkalplafaaGreatDoor
