/- The plain law of canonical forms: they are a matter of sets, and taking the form of a part changes nothing. -/
import Derived.Test.YtcbgngkalplafaaGreatDoorC7
namespace Go.Proofs.YtcbgngkalplafaaGreatDoor
open Go.RowKit Go.Shelf Lin

theorem comm_prefix : ∀ (l m : List Int), comm l m = m.length ↔ m <+: l
  | [], [] => by simp [comm]
  | [], b :: m => by simp [comm]
  | a :: l, [] => by simp [comm]
  | a :: l, b :: m => by
    by_cases e : a = b
    · subst e
      simp only [comm, if_true, List.length_cons]
      rw [Nat.add_right_cancel_iff, comm_prefix l m]
      exact (List.prefix_cons_inj a).symm
    · simp only [comm, if_neg e, List.length_cons]
      constructor
      · intro h; omega
      · intro h; exact absurd (List.cons_prefix_cons.1 h).1.symm e
theorem withinB_iff (n o : ByteArray) : withinB n o = true ↔ validB n = true ∧ validB o = true ∧ ordl o <+: ordl n := by
  simp only [withinB, Bool.and_eq_true, beq_iff_eq, comm_prefix, and_assoc]
theorem withinB_trans {a b c : ByteArray} (h1 : withinB a b = true) (h2 : withinB b c = true) : withinB a c = true := by
  rw [withinB_iff] at *
  exact ⟨h1.1, h2.2.1, h2.2.2.trans h1.2.2⟩
theorem within_lt {n o : Nm} (h : withinB n.1 o.1 = true) (hne : o ≠ n) : o.key.length < n.key.length := by
  rw [withinB_iff] at h
  have h1 : o.key <+: n.key := h.2.2
  rcases Nat.lt_or_ge o.key.length n.key.length with h2 | h2
  · exact h2
  · exact absurd (Nm.key_inj (h1.eq_of_length (Nat.le_antisymm h1.length_le h2))) hne

theorem mem_goodL {R ls : List ByteArray} {n : Nm} : n ∈ goodL R ls ↔ n.1 ∈ ls ∧ okN n.1 = true ∧ ∀ r ∈ R, withinB n.1 r = false := by
  have hp : pickB R n.1 = true ↔ okN n.1 = true ∧ ∀ r ∈ R, withinB n.1 r = false := by
    unfold pickB
    rw [Bool.and_eq_true, Bool.not_eq_true', List.any_eq_false]
    simp
  rw [← hp]
  unfold goodL
  rw [List.mem_filterMap]
  constructor
  · rintro ⟨a, ha, h⟩
    unfold pickN at h
    split at h
    · split at h
      · rename_i h1 h2
        cases h
        exact ⟨ha, h2⟩
      · cases h
    · cases h
  · rintro ⟨h1, h2⟩
    refine ⟨n.1, h1, ?_⟩
    unfold pickN
    rw [dif_pos n.2, if_pos h2]
    rfl
theorem mem_sortN {l : List Nm} {x : Nm} : x ∈ sortN l ↔ x ∈ l := (sortN_is l).2 x
theorem mem_canN {is : List Int} {ls : List ByteArray} {n : Nm} : n ∈ canN is ls ↔ n ∈ goodL (rootsL (canI is)) ls ∧ ∀ o ∈ goodL (rootsL (canI is)) ls, o ≠ n → withinB n.1 o.1 = false := by
  unfold canN topsL
  rw [List.mem_filter, mem_sortN, Bool.not_eq_true']
  unfold under
  rw [List.any_eq_false]
  constructor
  · rintro ⟨h1, h2⟩
    refine ⟨h1, fun o ho hne => ?_⟩
    have h3 := h2 o.1 (List.mem_map_of_mem (mem_sortN.2 ho))
    rw [Bool.and_eq_true, not_and, decide_eq_true_eq] at h3
    exact Bool.not_eq_true _ ▸ h3 fun e => hne (Nm.ext e)
  · rintro ⟨h1, h2⟩
    refine ⟨h1, fun x hx => ?_⟩
    obtain ⟨o, ho, rfl⟩ := List.mem_map.1 hx
    rw [Bool.and_eq_true, not_and, decide_eq_true_eq]
    intro hne
    rw [h2 o (mem_sortN.1 ho) (fun e => hne (by rw [e]))]
    simp
theorem canN_pair (is : List Int) (ls : List ByteArray) : (canN is ls).Pairwise nlt := (sortN_is _).1.filter _
theorem canN_ext {is is' : List Int} {ls ls' : List ByteArray} (h : ∀ n, n ∈ canN is ls ↔ n ∈ canN is' ls') : canN is ls = canN is' ls' := sorted_unique slo_nm _ _ (canN_pair _ _) (canN_pair _ _) h
theorem mem_canI {is : List Int} {x : Int} : x ∈ canI is ↔ x ∈ is ∧ 1 ≤ x := by
  rw [(canI_is is).2 x, List.mem_filter, decide_eq_true_eq]
theorem canI_ext {is is' : List Int} (h : ∀ x, 1 ≤ x → (x ∈ is ↔ x ∈ is')) : canI is = canI is' :=
  IsSort.unique slo_int (canI_is is) (canI_is is') fun x => by
    rw [List.mem_filter, List.mem_filter, decide_eq_true_eq]
    exact ⟨fun ⟨h1, h2⟩ => ⟨(h x h2).1 h1, h2⟩, fun ⟨h1, h2⟩ => ⟨(h x h2).2 h1, h2⟩⟩
theorem rootsL_sub {is is' : List Int} (h : ∀ x, x ∈ is → x ∈ is') {r : ByteArray} (hr : r ∈ rootsL is) : r ∈ rootsL is' := by
  obtain ⟨i, hi, rfl⟩ := List.mem_map.1 hr
  have := List.mem_filter.1 hi
  exact List.mem_map_of_mem (List.mem_filter.2 ⟨h i this.1, this.2⟩)
/-- The form is a matter of the two sets. -/
theorem can_set {is is' : List Int} {ls ls' : List ByteArray} (hi : ∀ x, 1 ≤ x → (x ∈ is ↔ x ∈ is')) (hl : ∀ x, x ∈ ls ↔ x ∈ ls') : canI is = canI is' ∧ canN is ls = canN is' ls' := by
  have h := canI_ext hi
  refine ⟨h, canN_ext fun n => ?_⟩
  rw [mem_canN, mem_canN, h]
  have hg : ∀ o, o ∈ goodL (rootsL (canI is')) ls ↔ o ∈ goodL (rootsL (canI is')) ls' := fun o => by rw [mem_goodL, mem_goodL, hl]
  rw [hg]
  exact and_congr_right fun _ => ⟨fun h1 o ho => h1 o ((hg o).2 ho), fun h1 o ho => h1 o ((hg o).1 ho)⟩
/-- Above each name stands a top. -/
theorem top_above (G : List Nm) : ∀ (k : Nat) (n : Nm), n.key.length < k → n ∈ G → ∃ t, t ∈ G ∧ (t = n ∨ withinB n.1 t.1 = true) ∧ ∀ o ∈ G, o ≠ t → withinB t.1 o.1 = false
  | 0, _, h, _ => absurd h (Nat.not_lt_zero _)
  | k + 1, n, h, hn => by
    by_cases he : ∃ o, o ∈ G ∧ o ≠ n ∧ withinB n.1 o.1 = true
    · obtain ⟨o, ho, hne, hw⟩ := he
      have hlt := within_lt hw hne
      obtain ⟨t, ht, h1, h2⟩ := top_above G k o (by omega) ho
      refine ⟨t, ht, .inr ?_, h2⟩
      rcases h1 with rfl | h1
      · exact hw
      · exact withinB_trans hw h1
    · refine ⟨n, hn, .inl rfl, fun o ho hne => ?_⟩
      rw [← Bool.not_eq_true]
      exact fun hw => he ⟨o, ho, hne, hw⟩
theorem can_absorb (i' i : List Int) (l' l : List ByteArray) : canI (i' ++ canI i) = canI (i' ++ i) ∧ canN (i' ++ canI i) (l' ++ canS i l) = canN (i' ++ i) (l' ++ l) := by
  have hJ : canI (i' ++ canI i) = canI (i' ++ i) := canI_ext fun x hx => by
    rw [List.mem_append, List.mem_append, mem_canI]
    exact ⟨fun h => h.imp_right And.left, fun h => h.imp_right fun h => ⟨h, hx⟩⟩
  refine ⟨hJ, canN_ext fun n => ?_⟩
  rw [mem_canN, mem_canN, hJ]
  have hR : ∀ r, r ∈ rootsL (canI i) → r ∈ rootsL (canI (i' ++ i)) := fun r => rootsL_sub fun x hx => by
    rw [mem_canI] at hx ⊢
    exact ⟨List.mem_append_right _ hx.1, hx.2⟩
  generalize rootsL (canI (i' ++ i)) = R at hR
  have hS : ∀ x, x ∈ canS i l → x ∈ l := fun x hx => by
    obtain ⟨n, hn, rfl⟩ := List.mem_map.1 hx
    exact (mem_goodL.1 (mem_canN.1 hn).1).1
  have sub : ∀ o, o ∈ goodL R (l' ++ canS i l) → o ∈ goodL R (l' ++ l) := fun o ho => by
    rw [mem_goodL] at ho ⊢
    refine ⟨?_, ho.2⟩
    rcases List.mem_append.1 ho.1 with h | h
    · exact List.mem_append_left _ h
    · exact List.mem_append_right _ (hS _ h)
  have cover : ∀ o, o ∈ goodL R (l' ++ l) → ¬ o ∈ goodL R (l' ++ canS i l) → ∃ t, t ∈ goodL R (l' ++ canS i l) ∧ t ≠ o ∧ withinB o.1 t.1 = true := fun o ho hno => by
    have ho' := mem_goodL.1 ho
    have hl : o.1 ∈ l := by
      rcases List.mem_append.1 ho'.1 with h | h
      · exact absurd (mem_goodL.2 ⟨List.mem_append_left _ h, ho'.2⟩) hno
      · exact h
    have hg : o ∈ goodL (rootsL (canI i)) l := mem_goodL.2 ⟨hl, ho'.2.1, fun r hr => ho'.2.2 r (hR r hr)⟩
    obtain ⟨t, ht, h1, h2⟩ := top_above _ _ o (Nat.lt_succ_self _) hg
    have htS : t.1 ∈ canS i l := List.mem_map_of_mem (mem_canN.2 ⟨ht, h2⟩)
    have htG : t ∈ goodL R (l' ++ canS i l) := by
      refine mem_goodL.2 ⟨List.mem_append_right _ htS, (mem_goodL.1 ht).2.1, fun r hr => ?_⟩
      rw [← Bool.not_eq_true]
      intro hw
      have : withinB o.1 r = true := by
        rcases h1 with rfl | h1
        · exact hw
        · exact withinB_trans h1 hw
      rw [ho'.2.2 r hr] at this
      cases this
    have hne : t ≠ o := fun e => hno (e ▸ htG)
    exact ⟨t, htG, hne, h1.resolve_left hne⟩
  constructor
  · rintro ⟨h1, h2⟩
    refine ⟨sub n h1, fun o ho hne => ?_⟩
    rw [← Bool.not_eq_true]
    intro hw
    by_cases hin : o ∈ goodL R (l' ++ canS i l)
    · rw [h2 o hin hne] at hw; cases hw
    · obtain ⟨t, ht, hne', hw'⟩ := cover o ho hin
      have hl1 := within_lt hw hne
      have hl2 := within_lt hw' hne'
      have := h2 t ht (fun e => by rw [e] at hl2; omega)
      rw [withinB_trans hw hw'] at this
      cases this
  · rintro ⟨h1, h2⟩
    have hin : n ∈ goodL R (l' ++ canS i l) := by
      refine Classical.byContradiction fun hin => ?_
      obtain ⟨t, ht, hne', hw'⟩ := cover n h1 hin
      rw [h2 t (sub t ht) hne'] at hw'
      cases hw'
    exact ⟨hin, fun o ho => h2 o (sub o ho)⟩
theorem can_idem (i : List Int) (l : List ByteArray) : canI (canI i) = canI i ∧ canN (canI i) (canS i l) = canN i l := by
  have := can_absorb [] i [] l
  simpa using this
theorem can_comm (i i' : List Int) (l l' : List ByteArray) : canI (i ++ i') = canI (i' ++ i) ∧ canN (i ++ i') (l ++ l') = canN (i' ++ i) (l' ++ l) :=
  can_set (fun x _ => by simp [or_comm]) (fun x => by simp [or_comm])
theorem can_absorb' (i' i : List Int) (l' l : List ByteArray) : canI (canI i ++ i') = canI (i ++ i') ∧ canN (canI i ++ i') (canS i l ++ l') = canN (i ++ i') (l ++ l') := by
  have h1 := can_comm (canI i) i' (canS i l) l'
  have h2 := can_absorb i' i l' l
  have h3 := can_comm i' i l' l
  exact ⟨h1.1.trans (h2.1.trans h3.1), h1.2.trans (h2.2.trans h3.2)⟩
theorem canS_of {i i' : List Int} {l l' : List ByteArray} (h : canN i l = canN i' l') : canS i l = canS i' l' := by unfold canS; rw [h]
theorem can_dup (i : List Int) (l : List ByteArray) : canI (i ++ i) = canI i ∧ canN (i ++ i) (l ++ l) = canN i l :=
  can_set (fun x _ => by simp) (fun x => by simp)
theorem can_nil : canI [] = [] ∧ canN [] [] = [] := by
  constructor
  · exact List.eq_nil_iff_forall_not_mem.2 fun x hx => by have := (mem_canI.1 hx).1; simp at this
  · exact List.eq_nil_iff_forall_not_mem.2 fun x hx => by have := (mem_goodL.1 (mem_canN.1 hx).1).1; simp at this
/-- Plus is associative. -/
theorem can_assoc (ia ib ic : List Int) (la lb lc : List ByteArray) :
    canI (ia ++ canI (ib ++ ic)) = canI (canI (ia ++ ib) ++ ic) ∧ canN (ia ++ canI (ib ++ ic)) (la ++ canS (ib ++ ic) (lb ++ lc)) = canN (canI (ia ++ ib) ++ ic) (canS (ia ++ ib) (la ++ lb) ++ lc) := by
  have h1 := can_absorb ia (ib ++ ic) la (lb ++ lc)
  have h2 := can_absorb' ic (ia ++ ib) lc (la ++ lb)
  rw [h1.1, h1.2, h2.1, h2.2, List.append_assoc, List.append_assoc]
  exact ⟨rfl, rfl⟩
end Go.Proofs.YtcbgngkalplafaaGreatDoor
