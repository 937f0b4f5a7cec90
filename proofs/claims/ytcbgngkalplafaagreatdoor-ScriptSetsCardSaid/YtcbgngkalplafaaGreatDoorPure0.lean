/- Plain functions for the names of processes: how a text is divided into ordinals. No program in sight. -/
namespace Go.Proofs.YtcbgngkalplafaaGreatDoor.Lin

abbrev Part := Int × Int × Int

def isDig (c : UInt8) : Bool := decide (48 ≤ c.toNat) && decide (c.toNat ≤ 57)
def ndig : List UInt8 → Nat
  | [] => 0
  | c :: r => if isDig c = true then ndig r + 1 else 0
def dval (l : List UInt8) : Int := l.foldl (fun a c => a * 10 + ((c.toNat : Int) - 48)) 0

/-- The parts that are yielded from the offset i on, where k parts are still permitted. -/
def partsGo : Nat → Nat → List UInt8 → List Part
  | 0, i, _ => [(0, i, 9)]
  | k + 1, i, l =>
    if l = [] then [(0, i, 4)]
    else if ndig l = 0 then [(0, i, 6)]
    else if l.head? = some 48 then [(0, i, 3)]
    else if 6 < ndig l then [(0, i, 2)]
    else (dval (l.take (ndig l)), i, 0) :: match l.drop (ndig l) with
      | [] => []
      | c :: r => if c = 46 then partsGo k (i + ndig l + 1) r else [(0, i + ndig l, 6)]
def parts (l : List UInt8) : List Part := if l = [] then [] else partsGo 8 0 l

theorem ndig_le : ∀ l : List UInt8, ndig l ≤ l.length
  | [] => Nat.le_refl _
  | c :: r => by
    unfold ndig
    have := ndig_le r
    split <;> simp <;> omega
theorem ndig_lt : ∀ (l : List UInt8) (j : Nat) (h : j < ndig l) (h2 : j < l.length), isDig l[j] = true
  | [], j, h, _ => by simp [ndig] at h
  | c :: r, j, h, h2 => by
    unfold ndig at h
    split at h
    · rename_i hc
      cases j with
      | zero => exact hc
      | succ j => exact ndig_lt r j (by omega) (by simp at h2; omega)
    · omega
theorem ndig_at : ∀ (l : List UInt8) (h : ndig l < l.length), isDig l[ndig l] = false
  | [], h => by simp [ndig] at h
  | c :: r, h => by
    by_cases hc : isDig c = true
    · have e : ndig (c :: r) = ndig r + 1 := by simp [ndig, hc]
      have h' : ndig r < r.length := by rw [e] at h; simp at h; omega
      have := ndig_at r h'
      simp only [e, List.getElem_cons_succ]
      exact this
    · have e : ndig (c :: r) = 0 := by simp [ndig, hc]
      simp only [e, List.getElem_cons_zero]
      simpa using hc
theorem ndig_take : ∀ (l : List UInt8) (d : Nat), d ≤ ndig l → ndig (l.take d) = d
  | [], d, h => by simp [ndig] at h; subst h; rfl
  | c :: r, 0, _ => rfl
  | c :: r, d + 1, h => by
    unfold ndig at h
    split at h
    · rename_i hc
      rw [List.take_succ_cons]
      simp only [ndig, hc, if_true]
      rw [ndig_take r d (by omega)]
    · omega
theorem partsGo_9 (i : Nat) (l : List UInt8) : partsGo 0 i l = [(0, (i : Int), 9)] := rfl
theorem partsGo_4 {k : Nat} (hk : 0 < k) (i : Nat) {l : List UInt8} (h : l = []) : partsGo k i l = [(0, (i : Int), 4)] := by
  obtain ⟨k, rfl⟩ : ∃ m, k = m + 1 := ⟨k - 1, by omega⟩
  simp only [partsGo, if_pos h]
theorem partsGo_6 {k : Nat} (hk : 0 < k) (i : Nat) {l : List UInt8} (h : l ≠ []) (h0 : ndig l = 0) : partsGo k i l = [(0, (i : Int), 6)] := by
  obtain ⟨k, rfl⟩ : ∃ m, k = m + 1 := ⟨k - 1, by omega⟩
  simp only [partsGo, if_neg h, if_pos h0]
theorem partsGo_3 {k : Nat} (hk : 0 < k) (i : Nat) {l : List UInt8} (h : l ≠ []) (h0 : ndig l ≠ 0) (h1 : l.head? = some 48) : partsGo k i l = [(0, (i : Int), 3)] := by
  obtain ⟨k, rfl⟩ : ∃ m, k = m + 1 := ⟨k - 1, by omega⟩
  simp only [partsGo, if_neg h, if_neg h0, if_pos h1]
theorem partsGo_2 {k : Nat} (hk : 0 < k) (i : Nat) {l : List UInt8} (h : l ≠ []) (h0 : ndig l ≠ 0) (h1 : l.head? ≠ some 48) (h2 : 6 < ndig l) : partsGo k i l = [(0, (i : Int), 2)] := by
  obtain ⟨k, rfl⟩ : ∃ m, k = m + 1 := ⟨k - 1, by omega⟩
  simp only [partsGo, if_neg h, if_neg h0, if_neg h1, if_pos h2]
theorem partsGo_0 {k : Nat} (hk : 0 < k) (i : Nat) {l : List UInt8} (h : l ≠ []) (h0 : ndig l ≠ 0) (h1 : l.head? ≠ some 48) (h2 : ¬ 6 < ndig l) :
    partsGo k i l = (dval (l.take (ndig l)), (i : Int), 0) :: match l.drop (ndig l) with
      | [] => []
      | c :: r => if c = 46 then partsGo (k - 1) (i + ndig l + 1) r else [(0, i + ndig l, 6)] := by
  obtain ⟨k, rfl⟩ : ∃ m, k = m + 1 := ⟨k - 1, by omega⟩
  simp only [partsGo, if_neg h, if_neg h0, if_neg h1, if_neg h2]
  rfl
end Go.Proofs.YtcbgngkalplafaaGreatDoor.Lin
