/- A valid name is the text of its ordinals: two valid names with the same ordinals are one. No program in sight. -/
import Derived.Lib.ItoaNum
import Derived.Test.YtcbgngkalplafaaGreatDoorPure0
namespace Go.Proofs.YtcbgngkalplafaaGreatDoor.Lin
open Go.Lib

def nval (l : List UInt8) : Nat := l.foldl (fun a c => a * 10 + (c.toNat - 48)) 0
def digs (l : List UInt8) : Prop := ∀ c ∈ l, isDig c = true

theorem dval_nval (l : List UInt8) (h : digs l) : dval l = (nval l : Int) := by
  unfold dval nval
  have : ∀ (l : List UInt8) (a : Nat), digs l → l.foldl (fun (a : Int) c => a * 10 + ((c.toNat : Int) - 48)) (a : Int) = ((l.foldl (fun a c => a * 10 + (c.toNat - 48)) a : Nat) : Int) := by
    intro l
    induction l with
    | nil => intro a _; rfl
    | cons c l ih =>
      intro a h
      have hc := h c (by simp)
      simp only [isDig, Bool.and_eq_true, decide_eq_true_eq] at hc
      simp only [List.foldl_cons]
      rw [← ih _ (fun x hx => h x (by simp [hx]))]
      congr 1
      omega
  exact this l 0 h
theorem nval_snoc (l : List UInt8) (c : UInt8) : nval (l ++ [c]) = nval l * 10 + (c.toNat - 48) := by simp [nval]
theorem nval_pos : ∀ (n : Nat) (l : List UInt8), l.length = n → digs l → l ≠ [] → l.head? ≠ some 48 → 1 ≤ nval l := by
  intro n
  induction n with
  | zero => intro l h _ h1; exact absurd (List.eq_nil_of_length_eq_zero h) h1
  | succ n ih =>
    intro l hl hd hne h0
    rcases List.eq_nil_or_concat l with rfl | ⟨t, c, rfl⟩
    · exact absurd rfl hne
    · rw [List.concat_eq_append] at *
      rw [nval_snoc]
      rcases List.eq_nil_or_concat t with rfl | ⟨t', c', rfl⟩
      · have hc := hd c (by simp)
        simp only [isDig, Bool.and_eq_true, decide_eq_true_eq] at hc
        have : c.toNat ≠ 48 := fun e => h0 (by simp; exact UInt8.toNat_inj.1 e)
        simp [nval]
        omega
      · have := ih (t'.concat c') (by simpa using hl) (fun x hx => hd x (List.mem_append_left _ hx)) (by simp) (by
          cases t' <;> simpa using h0)
        omega
theorem decDigits_nval : ∀ (n : Nat) (l : List UInt8), l.length = n → digs l → l ≠ [] → l.head? ≠ some 48 → decDigits (nval l) = l := by
  intro n
  induction n with
  | zero => intro l h _ h1; exact absurd (List.eq_nil_of_length_eq_zero h) h1
  | succ n ih =>
    intro l hl hd hne h0
    rcases List.eq_nil_or_concat l with rfl | ⟨t, c, rfl⟩
    · exact absurd rfl hne
    · rw [List.concat_eq_append] at *
      rw [nval_snoc]
      have hc := hd c (by simp)
      simp only [isDig, Bool.and_eq_true, decide_eq_true_eq] at hc
      have hcc : UInt8.ofNat (48 + (c.toNat - 48)) = c := by
        apply UInt8.toNat_inj.1
        simp
        omega
      rcases List.eq_nil_or_concat t with rfl | ⟨t', c', rfl⟩
      · rw [decDigits, dif_pos (by simp [nval]; omega)]
        simp only [nval, List.foldl_nil, Nat.zero_mul, Nat.zero_add, List.nil_append]
        rw [hcc]
      · have hd' : digs (t'.concat c') := fun x hx => hd x (List.mem_append_left _ hx)
        have h0' : (t'.concat c').head? ≠ some 48 := by cases t' <;> simpa using h0
        have h1 := ih (t'.concat c') (by simpa using hl) hd' (by simp) h0'
        have h2 := nval_pos _ (t'.concat c') rfl hd' (by simp) h0'
        rw [decDigits, dif_neg (by omega)]
        rw [show (nval (t'.concat c') * 10 + (c.toNat - 48)) / 10 = nval (t'.concat c') by omega, h1]
        rw [show (nval (t'.concat c') * 10 + (c.toNat - 48)) % 10 = c.toNat - 48 by omega, hcc]

/-- The text of some ordinals. -/
def render : List Int → List UInt8
  | [] => []
  | [a] => decDigits a.toNat
  | a :: b :: r => decDigits a.toNat ++ 46 :: render (b :: r)

theorem take_digs (l : List UInt8) : digs (l.take (ndig l)) := by
  intro c hc
  obtain ⟨j, hj, rfl⟩ := List.getElem_of_mem hc
  simp only [List.length_take] at hj
  rw [List.getElem_take]
  exact ndig_lt l j (by omega) (by omega)
theorem dec_take (l : List UInt8) (h0 : ndig l ≠ 0) (h1 : l.head? ≠ some 48) : decDigits (dval (l.take (ndig l))).toNat = l.take (ndig l) := by
  rw [dval_nval _ (take_digs l)]
  rw [Int.toNat_natCast]
  refine decDigits_nval _ _ rfl (take_digs l) ?_ ?_
  · intro e
    have := congrArg List.length e
    have h3 := ndig_le l
    simp at this
    rcases this with h | h
    · exact h0 h
    · subst h; simp [ndig] at h0
  · cases l with
    | nil => simp [ndig] at h0
    | cons c r =>
      obtain ⟨d, hd⟩ : ∃ d, ndig (c :: r) = d + 1 := ⟨ndig (c :: r) - 1, by omega⟩
      rw [hd]
      simpa using h1
theorem partsGo_ne (k i : Nat) (l : List UInt8) : partsGo k i l ≠ [] := by
  cases k with
  | zero => simp [partsGo]
  | succ k =>
    unfold partsGo
    repeat' split
    all_goals simp
theorem render_cons (a : Int) (x : List Int) (h : x ≠ []) : render (a :: x) = decDigits a.toNat ++ 46 :: render x := by
  cases x with
  | nil => exact absurd rfl h
  | cons b r => rfl
theorem partsGo_render : ∀ (k i : Nat) (l : List UInt8), (∀ x ∈ partsGo k i l, x.2.2 = 0) → render ((partsGo k i l).map (·.1)) = l := by
  intro k
  induction k with
  | zero => intro i l h; simp [partsGo] at h
  | succ k ih =>
    intro i l h
    by_cases e1 : l = []
    · rw [partsGo_4 (by omega) i e1] at h; simp at h
    by_cases e2 : ndig l = 0
    · rw [partsGo_6 (by omega) i e1 e2] at h; simp at h
    by_cases e3 : l.head? = some 48
    · rw [partsGo_3 (by omega) i e1 e2 e3] at h; simp at h
    by_cases e4 : 6 < ndig l
    · rw [partsGo_2 (by omega) i e1 e2 e3 e4] at h; simp at h
    rw [partsGo_0 (by omega) i e1 e2 e3 e4] at h ⊢
    have hd := dec_take l e2 e3
    have ht := List.take_append_drop (ndig l) l
    cases hr : l.drop (ndig l) with
    | nil =>
      rw [hr] at ht
      simp only [List.map_cons, List.map_nil, render]
      rw [hd]
      simpa using ht
    | cons c r =>
      rw [hr] at h ht
      simp only [Nat.add_sub_cancel] at h ⊢
      by_cases hc : c = 46
      · simp only [hc, if_true] at h ⊢
        have hi := ih (i + ndig l + 1) r (fun x hx => h x (by simp [hx]))
        rw [List.map_cons, render_cons _ _ (by simpa using partsGo_ne _ _ _), hi, hd]
        rw [hc] at ht
        exact ht
      · simp only [hc, if_false] at h
        have := h (0, i + ndig l, 6) (by simp)
        simp at this
theorem parts_render (l : List UInt8) (h : ∀ x ∈ parts l, x.2.2 = 0) : render ((parts l).map (·.1)) = l := by
  unfold parts at h ⊢
  split at h
  · rename_i e; subst e; rfl
  · rename_i e; rw [if_neg e]; exact partsGo_render _ _ _ h
end Go.Proofs.YtcbgngkalplafaaGreatDoor.Lin
