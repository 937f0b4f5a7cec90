/- lineage.Tops over valid names. -/
import Derived.Test.YtcbgngkalplafaaGreatDoorB6
import Derived.OwnWalk
namespace Go.Proofs.YtcbgngkalplafaaGreatDoor
open Go.RowKit Go.Shelf Lin

/-- n lies strictly within another name of the list. -/
def under (S : List ByteArray) (n : ByteArray) : Bool := S.any fun o => decide (o ≠ n) && withinB n o
def topsL (S : List Nm) : List Nm := S.filter fun n => !under (S.map (·.1)) n.1
def topsK (S : List Nm) (k : Nat) : List Nm := (S.take k).filter fun n => !under (S.map (·.1)) n.1

theorem topsK_succ (S : List Nm) (k : Nat) (h : k < S.length) : topsK S (k + 1) = topsK S k ++ if under (S.map (·.1)) (S[k]).1 = true then [] else [S[k]] := by
  unfold topsK
  rw [List.take_succ_eq_append_getElem h, List.filter_append]
  congr 1
  by_cases e : under (S.map (·.1)) (S[k]).1 = true <;> simp [e]
theorem topsK_length (S : List Nm) (k : Nat) : (topsK S k).length ≤ k := Nat.le_trans (List.length_filter_le _ _) (by simp; omega)
theorem topsK_all (S : List Nm) : topsK S S.length = topsL S := by unfold topsK topsL; rw [List.take_length]
theorem below_append {W w1 : World} {B n : Nat} {e : TypeId} {v : Value} {xs : List Value} {o : Obj} (hown : W.ownsRow B e 1 v n xs) (hB : B ≤ W.heap.size) (hg : (W.alloc o).grownBy w1 v.ownBlock) : Below B W w1 :=
  ((Below.refl B W).alloc hB o).grown hg (by rw [sizeA]; omega) fun k hk => (hown.lt k hk).1
theorem Tryz_info47 : (Tryz.prog.info? 47).map (fun i => (i.zero, i.size, i.bytes)) = some (some (.string ByteArray.empty), 1, 16) := by kernel_rfl

set_option maxRecDepth 100000 in
set_option maxHeartbeats 4000000 in
theorem tops_any (hA : AtoiSaid) (l : List Nm) (hl : l.length ≤ 1000000) (v : Value) (w : World) (hv : Rd Value.string w v (l.map (·.1))) :
    Calls Tryz.prog 33 #[v] w fun e w' => ∃ v' S, e = .returned v' ∧ IsSort nlt l S ∧ S.length ≤ l.length ∧ w'.ownsRow w.heap.size 47 1 v' (topsL S).length ((topsL S).map encN) ∧ Below w.heap.size w w' := by
  have HS := Lib.hid (sort_any hA l hl v w hv)
  obtain ⟨A, c, rfl, hlen⟩ := hv.slice
  clear hv
  rw [List.length_map] at HS ⊢
  go_enter Tryz.func33, Tryz.ntmps33
  go_wp2_with fail
  refine HS.out.mono ?_
  rintro e w1 ⟨v1, S, rfl, hS, hlS, h1, hb1⟩
  have HO := Lib.hid h1
  have HSS := Lib.hid hS
  obtain ⟨A1, c1, rfl⟩ := own_slice' h1
  clear h1 hS
  go_wp2
  have HR1 := Lib.hid (show Rd Value.string w1 (.slice A1 S.length c1) (S.map (·.1)) from by
    have h := HO.out
    rw [show S.length = (S.map (·.1)).length by rw [List.length_map]] at h ⊢
    exact Rd.of_own (e := 47) (by rw [List.map_map]; exact h))
  obtain ⟨i0, hi, hz0, hz1, hz2⟩ := info_parts Tryz_info47
  have hB1 := hb1.size
  go_loopw [4, 11] (fun a b wr => ∃ k : Nat, b = .int .i64 k ∧ k ≤ S.length ∧ wr.ownsRow w1.heap.size 47 1 a (topsK S k).length ((topsK S k).map encN) ∧ Below w1.heap.size w1 wr) (fun _ b _ => S.length - (intOf b).toNat)
  case atStart => exact ⟨0, rfl, by omega, World.ownsRow_nil _ _ _ _, Below.refl _ _⟩
  case round =>
    obtain ⟨k, rfl, hk, hown, hb⟩ := hrel
    by_cases h1 : k < S.length
    · have h1' : (k : Int) < (S.length : Int) := by omega
      obtain ⟨-, -, b, off, rfl, hx⟩ := (HR1.out.below hb).at (by omega)
      have hx := hx k (by simpa using h1)
      rw [List.getElem_map] at hx
      obtain ⟨A4, c4, rfl⟩ := own_slice' hown
      have HOW := Lib.hid hown
      clear hown
      have hba := hb.alloc hb.size (.cells #[.string S[k].1] 47)
      have hcell := cellA wr #[.string S[k].1] 47 0 _ rfl
      have hlt : wr.heap.size < (wr.alloc (.cells #[.string S[k].1] 47)).heap.size := by rw [sizeA]; omega
      have eg : ∀ args w, (callFunc 68 args).run Tryz.prog w = .ok (.enter 68 args) w := enters_of Tryz.func68 (by kernel_rfl) rfl
      have HC := Lib.hid (containsFunc_any 68 #[.pointer (some ⟨wr.heap.size, 0, none⟩)] eg (fun o => decide (o ≠ S[k].1) && withinB S[k].1 o) (S.map (·.1)) (.slice (some ⟨b, off, none⟩) S.length c1) _ (HR1.out.below hba) (by
        intro x W hx hbW
        obtain ⟨y, -, rfl⟩ := List.mem_map.1 hx
        exact topsc_any hA _ S[k].1 y.1 S[k].2.2 y.2.2 W ((hbW.cell (p := ⟨wr.heap.size, 0, none⟩) hlt).trans hcell)))
      have HOA := Lib.hid (HOW.out.alloc (.cells #[.string S[k].1] 47))
      have HT := Lib.hid (topsK_succ S k h1)
      have HTL := Lib.hid (topsK_length S k)
      clear eg
      go_wp2_with fail
      refine HC.out.mono ?_
      rintro e w2 ⟨rfl, hb2⟩
      have hb12 := below_then hba hba.size hb2
      have HO2 := Lib.hid (owns_below HOA.out hb2)
      have hc2 := (hb2.cell (p := ⟨wr.heap.size, 0, none⟩) hlt).trans hcell
      have hB2 := hb12.size
      cases hu : ((S.map (·.1)).any fun o => decide (o ≠ S[k].1) && withinB S[k].1 o) with
      | true =>
        have HU := Lib.hid (show topsK S (k + 1) = topsK S k by
          rw [HT.out, if_pos (show under (S.map (·.1)) (S[k]).1 = true from hu), List.append_nil])
        clear hu
        go_wp2
        go_round
        case rel =>
          refine ⟨k + 1, by go_num, by omega, ?_, hb12⟩
          rw [HU.out]; exact HO2.out
        case measure => simp [intOf]; omega
      | false =>
        have HU := Lib.hid (show topsK S (k + 1) = topsK S k ++ [S[k]] by
          rw [HT.out, if_neg]
          rw [show under (S.map (·.1)) (S[k]).1 = false from hu]; decide)
        clear hu
        go_wp2_with (at_builtin; refine wpList_append_own _ rfl _ _ 27 rfl w1.heap.size 47 i0 (.string ByteArray.empty) 1 16 Tryz.underlying27 hi hz0 hz1 hz2 rfl (by decide) _ _ _ rfl (HO2.out.alloc _) ⟨w2.heap.size, 0, none⟩ 1 1 [.string S[k].1] rfl rfl (cell_one_new _ _ _) (by simp [Value.oneCell']) (by have := HTL.out; simp only [maxLen]; omega) (by have := HTL.out; omega) (by rw [sizeA]; omega) ?_; intro v' w3 hown' hgrow _)
        have hb3 := below_append HO2.out hB2 hgrow
        go_round
        case rel =>
          refine ⟨k + 1, by go_num, by omega, ?_, hb12.trans hb3⟩
          rw [HU.out, List.length_append, List.map_append]; exact hown'
        case measure => simp [intOf]; omega
    · have h1' : ¬ (k : Int) < (S.length : Int) := by omega
      obtain rfl : k = S.length := by omega
      obtain ⟨A4, c4, rfl⟩ := own_slice' hown
      have HOW := Lib.hid hown
      clear hown
      go_wp2
      go_ret
      refine ⟨_, rfl, S, HSS.out, hlS, ?_, below_then hb1 hb1.size hb⟩
      rw [← topsK_all]
      exact owns_at HOW.out hB1
end Go.Proofs.YtcbgngkalplafaaGreatDoor
