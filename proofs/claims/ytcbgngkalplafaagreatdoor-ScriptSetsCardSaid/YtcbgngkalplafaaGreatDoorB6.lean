/- lineage.Sort, Tops over valid names. -/
import Derived.Test.YtcbgngkalplafaaGreatDoorB5
namespace Go.Proofs.YtcbgngkalplafaaGreatDoor
open Go.RowKit Go.Shelf Lin

theorem grow_owns {w : World} {B n : Nat} {e : TypeId} {v : Value} {xs : List Value} (h : w.ownsRow B e 1 v n xs) (os : Array Obj) : (Sort.grow w os).ownsRow B e 1 v n xs := by
  refine ⟨h.1, ?_⟩
  rcases h.2 with h | ⟨g, cap, cur, e1, hb, hh, r⟩
  · exact .inl h
  · refine .inr ⟨g, cap, cur, e1, hb, ?_, r⟩
    have hlt : g < w.heap.size := (Array.getElem?_eq_some_iff.1 hh).1
    simp only [Sort.grow, Array.getElem?_append, if_pos hlt]
    exact hh
theorem grow_below {B : Nat} {w w' : World} (h : Below B w w') (hB : B ≤ w'.heap.size) (os : Array Obj) : Below B w (Sort.grow w' os) :=
  ⟨h.os, h.tape, h.output, by have := h.size; simp only [Sort.grow, Array.size_append]; omega, fun k hk => by
    rw [← h.block k hk]
    simp only [Sort.grow, Array.getElem?_append, if_pos (show k < w'.heap.size by omega)]⟩
/-- What is owned from C on is owned from B on. -/
theorem owns_at {w : World} {B C n : Nat} {e : TypeId} {v : Value} {xs : List Value} (h : w.ownsRow C e 1 v n xs) (hB : B ≤ C) : w.ownsRow B e 1 v n xs := by
  refine ⟨h.1, ?_⟩
  rcases h.2 with h | ⟨g, cap, cur, e1, hb, r⟩
  · exact .inl h
  · exact .inr ⟨g, cap, cur, e1, by omega, r⟩
/-- What is owned below lies on. -/
theorem owns_below {w w' : World} {B n : Nat} {e : TypeId} {v : Value} {xs : List Value} (h : w.ownsRow B e 1 v n xs) (hb : Below w.heap.size w w') : w'.ownsRow B e 1 v n xs := by
  refine ⟨h.1, ?_⟩
  rcases h.2 with h | ⟨g, cap, cur, e1, hB, hh, r⟩
  · exact .inl h
  · exact .inr ⟨g, cap, cur, e1, hB, (hb.block g (Array.getElem?_eq_some_iff.1 hh).1).trans hh, r⟩

theorem clone_any (l : List ByteArray) (hl : l.length ≤ 1000000) (v : Value) (w : World) (hv : Rd Value.string w v l) :
    Calls Tryz.prog 50 #[v] w fun e w' => ∃ v', e = .returned v' ∧ w'.ownsRow w.heap.size 47 1 v' l.length (l.map Value.string) ∧ Below w.heap.size w w' := by
  obtain ⟨A, c, rfl, hlen⟩ := hv.slice
  have hone : ∀ u ∈ l.map Value.string, u.oneCell' = true := by
    intro u hu
    obtain ⟨x, -, rfl⟩ := List.mem_map.1 hu
    rfl
  have key : ∀ b off, A = some ⟨b, off, none⟩ → (∀ j u, (l.map Value.string)[j]? = some u → w.cell? ⟨b, off + j, none⟩ = some u) →
      Calls Tryz.prog 50 #[.slice A l.length c] w fun e w' => ∃ v', e = .returned v' ∧ w'.ownsRow w.heap.size 47 1 v' l.length (l.map Value.string) ∧ Below w.heap.size w w' := by
    rintro b off rfl hc
    refine (Tryz.slices_Clone ((Tryz.prog.info? 47).get (by kernel_rfl)) (.string ByteArray.empty) 1 16 (by kernel_rfl) (by kernel_rfl) (by kernel_rfl) (by kernel_rfl) rfl (by decide) Tryz.sizeOf47 b off l.length c (l.map Value.string) w (by simp) (by simp [maxLen]; omega) (by omega) hc hone).mono ?_
    rintro e w' ⟨v', rfl, h1, -, h3⟩
    exact ⟨v', rfl, h1, h3⟩
  rcases hv.plain with rfl | ⟨b, off, rfl⟩
  · have h0 : l = [] := by
      rcases hv with ⟨h, _⟩ | ⟨_, b, off, c', e, _⟩
      · exact h
      · cases e
    subst h0
    refine (Tryz.slices_Clone_nil _ _ _).mono ?_
    rintro e w' ⟨rfl, rfl⟩
    exact ⟨_, rfl, World.ownsRow_nil _ _ _ _, Below.refl _ _⟩
  · refine key b off rfl fun j u hu => ?_
    rcases hv with ⟨h, _⟩ | ⟨_, b', off', c', e, _, _, h⟩
    · subst h; simp at hu
    · cases e
      obtain ⟨hj, rfl⟩ := List.getElem?_eq_some_iff.1 hu
      rw [List.getElem_map]
      exact h j (by simpa using hj)

def sortedN (l : List Nm) : List Nm := l.mergeSort fun x y => !(ltOf cfN) y x
theorem sortedN_length (l : List Nm) : (sortedN l).length = l.length := List.length_mergeSort _
theorem cutN (l : List Nm) : (List.take l.length (sortedN l)).map encN = (sortedN l).map encN := by
  rw [← sortedN_length l, List.take_length]
theorem sortFunc_any (hA : AtoiSaid) (l : List Nm) (hl : l.length ≤ 1000000) (B : Nat) (v : Value) (w : World) (hB : B ≤ w.heap.size) (hv : w.ownsRow B 47 1 v l.length (l.map encN)) :
    Calls Tryz.prog 89 #[v, .func (.func 90) #[] #[]] w fun e w' => e = .returned (.tuple #[]) ∧ w'.ownsRow B 47 1 v l.length ((sortedN l).map encN) ∧ Below B w w' := by
  have h1 : OneCell encN := fun x => rfl
  by_cases hn : v = .slice none 0 0
  · subst hn
    have h0 : l = [] := by
      have := hv.2
      rcases this with ⟨_, h⟩ | ⟨g, cap, cur, e, _⟩
      · exact List.eq_nil_of_length_eq_zero h
      · cases e
    subst h0
    refine (Tryz.slices_SortFunc_none (α := Nm) none 0 _ w).mono ?_
    rintro e w' ⟨rfl, rfl⟩
    exact ⟨rfl, by rw [sortedN, List.mergeSort_nil]; exact World.ownsRow_nil _ _ _ _, Below.refl _ _⟩
  · obtain ⟨g, cap, rfl, hg, hlt, hcap, hmax, hlen, hH⟩ := Lib.holds_of_ownsRow hv hn
    have eg : ∀ args w, (callFunc 90 args).run Tryz.prog w = .ok (.enter 90 args) w := enters_of Tryz.func90 (by kernel_rfl) rfl
    have hs := Tryz.slices_SortFunc_total encN h1 cfN swo_nm 90 #[] g 0 cap l.toArray w eg (cmpLays_nm hA g 0 _ w) hH hlt (by simp; omega) (fun x y h2 h3 => slo_nm.tri x y (fun h => by rw [← ltOf_cfN, h2] at h; cases h) (fun h => by rw [← ltOf_cfN, h3] at h; cases h))
    rw [List.size_toArray] at hs
    refine hs.mono ?_
    rintro e w' ⟨rfl, n, os, rfl⟩
    refine ⟨rfl, ?_, ?_⟩
    · have := Lib.ownsRow_putRow (q := n) (k := l.length) (ys := sortedN l) hv (sortedN_length l) (Nat.le_refl _)
      rw [cutN] at this
      exact grow_owns this os
    · exact grow_below (Lib.below_putRow (Below.refl B w) hg) (by simp only [Sort.putRow, Sort.mapBlock, Sort.ahead, Array.size_modify]; exact hB) os

theorem compact_any (l : List Nm) (hl : l.length ≤ 1000000) (B : Nat) (v : Value) (w : World) (hv : w.ownsRow B 47 1 v l.length (l.map encN)) :
    Calls Tryz.prog 92 #[v] w fun e w' => ∃ v', e = .returned v' ∧ w'.ownsRow B 47 1 v' (Lib.compact l).length ((Lib.compact l).map encN) ∧ Below B w w' := by
  by_cases hn : v = .slice none 0 0
  · subst hn
    have h0 : l = [] := by
      have := hv.2
      rcases this with ⟨_, h⟩ | ⟨g, cap, cur, e, _⟩
      · exact List.eq_nil_of_length_eq_zero h
      · cases e
    subst h0
    refine (Tryz.slices_Compact_string_empty none 0 w).mono ?_
    rintro e w' ⟨rfl, rfl⟩
    exact ⟨_, rfl, World.ownsRow_nil _ _ _ _, Below.refl _ _⟩
  · have hm : (l.map fun n : Nm => n.1.data.toList).map encStr = l.map encN := by
      rw [List.map_map]
      apply List.map_congr_left
      intro x _
      simp [encStr, encN]
    have hcm : Lib.compact (l.map fun n : Nm => n.1.data.toList) = (Lib.compact l).map fun n : Nm => n.1.data.toList := by
      apply compact_map
      intro x y h
      apply Nm.ext
      obtain ⟨x, hx⟩ := x
      obtain ⟨y, hy⟩ := y
      cases x; cases y
      simpa using h
    have hv2 := hv
    rw [← hm] at hv2
    obtain ⟨g, cap, rfl, hg, hlt, hcap, hmax, hlen, hH⟩ := Lib.holds_of_ownsRow hv2 hn
    rw [← hlen]
    have hs := Tryz.slices_Compact_string g 0 cap (l.map fun n : Nm => n.1.data.toList) w hH (by rw [hlen]; omega) (by rw [hlen]; exact hcap)
    refine hs.mono ?_
    rintro e w' ⟨rfl, q, rfl⟩
    refine ⟨_, rfl, ?_, Lib.below_putRow (Below.refl B w) hg⟩
    have hle := Lib.compact_length_le (l.map fun n : Nm => n.1.data.toList)
    rw [hlen] at hle
    have := Lib.ownsRow_putRow (q := q) (k := (Lib.compact (l.map fun n : Nm => n.1.data.toList)).length)
      (ys := Lib.compact (l.map fun n : Nm => n.1.data.toList) ++ List.replicate (l.length - (Lib.compact (l.map fun n : Nm => n.1.data.toList)).length) []) hv2 (by simp; omega) hle
    rw [List.take_left] at this
    rw [hlen]
    rw [hcm] at this ⊢
    rw [List.map_map] at this
    simp only [List.length_map] at this ⊢
    have hm2 : (Lib.compact l).map (encStr ∘ fun n : Nm => n.1.data.toList) = (Lib.compact l).map encN := by
      apply List.map_congr_left
      intro x _
      simp [encStr, encN]
    rw [hm2] at this
    exact this

theorem sortN_is (l : List Nm) : IsSort nlt l (Lib.compact (sortedN l)) := by
  have h1 : (sortedN l).Pairwise fun x y => ¬ nlt y x := by
    refine (List.pairwise_mergeSort (le := fun x y => !(ltOf cfN) y x) ?_ ?_ l).imp ?_
    · intro a b c h1 h2
      simp only [Bool.not_eq_true'] at *
      exact swo_nm.ntrans _ _ _ h2 h1
    · intro a b
      rw [Bool.or_eq_true, Bool.not_eq_true', Bool.not_eq_true']
      by_cases h : ltOf cfN b a = true
      · right
        rw [← Bool.not_eq_true]
        intro h2
        rw [ltOf_cfN] at h h2
        exact slo_nm.irrefl _ (slo_nm.trans _ _ _ h h2)
      · left; simpa using h
    · intro a b h h2
      rw [← ltOf_cfN] at h2
      simp [h2] at h
  have h2 := compact_sort slo_nm _ h1
  exact ⟨h2.1, fun x => (h2.2 x).trans List.mem_mergeSort⟩

set_option maxRecDepth 100000 in
set_option maxHeartbeats 4000000 in
theorem sort_any (hA : AtoiSaid) (l : List Nm) (hl : l.length ≤ 1000000) (v : Value) (w : World) (hv : Rd Value.string w v (l.map (·.1))) :
    Calls Tryz.prog 67 #[v] w fun e w' => ∃ v' T, e = .returned v' ∧ IsSort nlt l T ∧ T.length ≤ l.length ∧ w'.ownsRow w.heap.size 47 1 v' T.length (T.map encN) ∧ Below w.heap.size w w' := by
  have HC := Lib.hid (clone_any _ (by simpa using hl) v w hv)
  obtain ⟨A, c, rfl, hlen⟩ := hv.slice
  clear hv
  rw [List.length_map] at HC ⊢
  go_enter Tryz.func67, Tryz.ntmps67
  go_wp2_with fail
  refine HC.out.mono ?_
  rintro e w1 ⟨v1, rfl, h1, hb1⟩
  have hB1 := hb1.size
  have h1 : w1.ownsRow w.heap.size 47 1 v1 l.length (l.map encN) := by
    rw [List.map_map] at h1
    exact h1
  have HS := Lib.hid (sortFunc_any hA l hl _ v1 w1 hB1 h1)
  obtain ⟨A1, c1, rfl⟩ := own_slice' h1
  clear h1
  go_wp2_with fail
  refine HS.out.mono ?_
  rintro e w2 ⟨rfl, h2, hb2⟩
  have hB2 := hb2.size
  rw [show l.length = (sortedN l).length from (sortedN_length l).symm] at h2
  have HK := Lib.hid (compact_any (sortedN l) (by rw [sortedN_length]; exact hl) _ _ w2 h2)
  rw [sortedN_length] at HK
  clear h2
  go_wp2_with fail
  refine HK.out.mono ?_
  rintro e w3 ⟨v3, rfl, h3, hb3⟩
  have HV := Lib.hid h3
  obtain ⟨A3, c3, rfl⟩ := own_slice' h3
  clear h3
  go_wp2
  go_ret
  exact ⟨_, _, rfl, sortN_is l, by have := Lib.compact_length_le (sortedN l); rw [sortedN_length] at this; exact this, HV.out, (hb1.trans hb2).trans hb3⟩
end Go.Proofs.YtcbgngkalplafaaGreatDoor
