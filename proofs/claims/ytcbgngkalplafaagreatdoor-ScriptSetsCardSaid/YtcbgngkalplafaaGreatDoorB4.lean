/- slices.ContainsFunc over names with a predicate that allocates; lineage.Covers. -/
import Derived.Test.YtcbgngkalplafaaGreatDoorB3
namespace Go.Proofs.YtcbgngkalplafaaGreatDoor
open Go.RowKit Go.Shelf Lin

/-- What is asked of a predicate over names. -/
def PredN (g : Nat) (lb : Array Value) (p : ByteArray → Bool) (l : List ByteArray) (w : World) : Prop :=
  ∀ (x : ByteArray) (W : World), x ∈ l → Below w.heap.size w W → Calls Tryz.prog g (#[.string x] ++ lb) W fun e w' => e = .returned (.bool (p x)) ∧ Below W.heap.size W w'

/-- Where the first that p holds of lies; -1 if there is none. -/
def idxOf (p : ByteArray → Bool) (l : List ByteArray) : Int := if l.findIdx p < l.length then (l.findIdx p : Int) else -1
theorem idxOf_nonneg (p : ByteArray → Bool) (l : List ByteArray) : decide (0 ≤ idxOf p l) = l.any p := by
  have h : l.findIdx p < l.length ↔ ∃ x ∈ l, p x = true := List.findIdx_lt_length
  unfold idxOf
  rw [Bool.eq_iff_iff, List.any_eq_true, ← h]
  split <;> simp_all <;> omega

set_option maxRecDepth 100000 in
set_option maxHeartbeats 4000000 in
theorem indexFunc_any (g : Nat) (lb : Array Value) (eg : ∀ args w, (callFunc g args).run Tryz.prog w = .ok (.enter g args) w) (p : ByteArray → Bool) (l : List ByteArray) (v : Value) (w : World)
    (hv : Rd Value.string w v l) (hp : PredN g lb p l w) :
    Calls Tryz.prog 73 #[v, .func (.func g) #[] lb] w fun e w' => e = .returned (.int .i64 (idxOf p l)) ∧ Below w.heap.size w w' := by
  obtain ⟨A, c, rfl, hl⟩ := hv.slice
  have HV := Lib.hid hv
  have HP := Lib.hid hp
  have HI := Lib.hid (show idxOf p l = if l.findIdx p < l.length then (l.findIdx p : Int) else -1 from rfl)
  generalize idxOf p l = r at HI ⊢
  clear hv hp
  go_enter Tryz.func73, Tryz.ntmps73
  go_wp2
  go_loopw [8] (fun a wr => ∃ j : Nat, a = .int .i64 j ∧ j ≤ l.findIdx p ∧ Below w.heap.size w wr) (fun a _ => l.length - (intOf a).toNat)
  case atStart => exact ⟨0, rfl, by omega, Below.refl _ _⟩
  case round =>
    obtain ⟨j, rfl, hj, hb⟩ := hrel
    have hfl : l.findIdx p ≤ l.length := List.findIdx_le_length
    by_cases h1 : j < l.length
    · have h1' : (j : Int) < (l.length : Int) := by omega
      obtain ⟨-, -, b, off, rfl, hx⟩ := (HV.out.below hb).at (by omega)
      have hx := hx j h1
      have hcall := HP.out l[j] wr (List.getElem_mem _) hb
      cases hq : p l[j] with
      | true =>
        have hje : l.findIdx p = j := by
          refine Nat.le_antisymm (Nat.le_of_not_lt fun h => ?_) hj
          have := List.not_of_lt_findIdx h
          rw [hq] at this
          cases this
        rw [hq] at hcall
        have HY := Lib.hid (show r = (j : Int) by rw [HI.out, hje, if_pos h1])
        clear hq hje hj hfl
        go_wp2_with (go_at_fn g; refine hcall.mono ?_; rintro e w' ⟨rfl, hb'⟩)
        have hb2 := below_then hb hb.size hb'
        go_ret
        exact ⟨by rw [HY.out]; rfl, by repeat' (first | exact hb2 | apply bdrew)⟩
      | false =>
        have hje : j < l.findIdx p := by
          refine Nat.lt_of_le_of_ne hj fun h => ?_
          have := List.findIdx_getElem (p := p) (xs := l) (w := by omega)
          simp only [← h, hq] at this
          cases this
        rw [hq] at hcall
        clear hq
        go_wp2_with (go_at_fn g; refine hcall.mono ?_; rintro e w' ⟨rfl, hb'⟩)
        have hb2 := below_then hb hb.size hb'
        go_round
        case rel => exact ⟨j + 1, by go_num, by omega, by repeat' (first | exact hb2 | apply bdrew)⟩
        case measure => simp [intOf]; omega
    · have h1' : ¬ (j : Int) < (l.length : Int) := by omega
      have HY := Lib.hid (show r = -1 by rw [HI.out, if_neg (by omega)])
      go_wp2
      go_ret
      exact ⟨by rw [HY.out]; rfl, by repeat' (first | exact hb | apply bdrew)⟩

set_option maxRecDepth 100000 in
set_option maxHeartbeats 4000000 in
theorem containsFunc_any (g : Nat) (lb : Array Value) (eg : ∀ args w, (callFunc g args).run Tryz.prog w = .ok (.enter g args) w) (p : ByteArray → Bool) (l : List ByteArray) (v : Value) (w : World)
    (hv : Rd Value.string w v l) (hp : PredN g lb p l w) :
    Calls Tryz.prog 38 #[v, .func (.func g) #[] lb] w fun e w' => e = .returned (.bool (l.any p)) ∧ Below w.heap.size w w' := by
  have HH := Lib.hid (indexFunc_any g lb eg p l v w hv hp)
  obtain ⟨A, c, rfl, hl⟩ := hv.slice
  rw [← idxOf_nonneg p l]
  generalize idxOf p l = r at HH ⊢
  clear hv hp
  go_enter Tryz.func38, Tryz.ntmps38
  go_wp2_with fail
  refine HH.out.mono ?_
  rintro e w1 ⟨rfl, hb1⟩
  go_wp2
  all_goals go_ret
  all_goals exact ⟨by simp_all, by repeat' (first | exact hb1 | apply bdrew)⟩

set_option maxRecDepth 100000 in
set_option maxHeartbeats 4000000 in
theorem covers_any (hA : AtoiSaid) (l : List ByteArray) (hl : ∀ x ∈ l, x.size ≤ 9223372036854775807) (n : ByteArray) (hn : n.size ≤ 9223372036854775807) (v : Value) (w : World) (hv : Rd Value.string w v l) :
    Calls Tryz.prog 19 #[v, .string n] w fun e w' => e = .returned (.bool (l.any (withinB n))) ∧ Below w.heap.size w w' := by
  obtain ⟨A, c, rfl, _⟩ := hv.slice
  have HV := Lib.hid hv
  clear hv
  have HB := Lib.hid ((Below.refl w.heap.size w).alloc (Nat.le_refl _) (.cells #[.string n] 47))
  go_enter Tryz.func19, Tryz.ntmps19
  go_wp2_with fail
  have eg : ∀ args w, (callFunc 39 args).run Tryz.prog w = .ok (.enter 39 args) w := enters_of Tryz.func39 (by kernel_rfl) rfl
  have hcell := cellA w #[.string n] 47 0 _ rfl
  have hlt : w.heap.size < (w.alloc (.cells #[.string n] 47)).heap.size := by rw [sizeA]; omega
  refine (containsFunc_any 39 _ eg (withinB n) l _ _ (HV.out.below HB.out) ?_).mono ?_
  · intro x W hx hb
    exact coversc_any hA _ n x hn (hl x hx) W ((hb.cell (p := ⟨w.heap.size, 0, none⟩) hlt).trans hcell)
  rintro e w1 ⟨rfl, hb1⟩
  have hb2 := below_then HB.out HB.out.size hb1
  go_wp2
  go_ret
  exact ⟨rfl, hb2⟩
end Go.Proofs.YtcbgngkalplafaaGreatDoor
