/- lineage.Sort over valid names. -/
import Derived.Test.YtcbgngkalplafaaGreatDoorB4
import Derived.Test.YtcbgngkalplafaaGreatDoorDrawn
import Derived.Test.YtcbgngkalplafaaGreatDoorPure1
import Derived.Test.YtcbgngkalplafaaGreatDoorPure2
import Derived.Test.YtcbgngkalplafaaGreatDoorShelf
import Derived.Lib.OwnBridge
namespace Go.Proofs.YtcbgngkalplafaaGreatDoor
open Go.RowKit Go.Shelf Lin

/-- A valid name. -/
def Nm : Type := { s : ByteArray // validB s = true ∧ s.size ≤ 9223372036854775807 }
instance : DecidableEq Nm := inferInstanceAs (DecidableEq { s : ByteArray // validB s = true ∧ s.size ≤ 9223372036854775807 })
theorem valid_empty : validB ByteArray.empty = true := by rfl
instance : Inhabited Nm := ⟨⟨ByteArray.empty, valid_empty, by decide⟩⟩
def Nm.key (n : Nm) : List Int := ordl n.1
theorem Nm.ext {x y : Nm} (h : x.1 = y.1) : x = y := Subtype.ext h

theorem render_ordl (s : ByteArray) (h : validB s = true) : render (ordl s) = s.data.toList := by
  have := parts_render s.data.toList ((validB_iff s).1 h)
  rw [ordl, if_pos h, ords]; exact this
theorem Nm.key_inj {x y : Nm} (h : x.key = y.key) : x = y := by
  apply Nm.ext
  have h1 := render_ordl x.1 x.2.1
  have h2 := render_ordl y.1 y.2.1
  have h3 : ordl x.1 = ordl y.1 := h
  rw [h3, h2] at h1
  obtain ⟨x, hx⟩ := x
  obtain ⟨y, hy⟩ := y
  cases x; cases y
  simpa using h1.symm

theorem lexc_self : ∀ l : List Int, lexc l l = 0
  | [] => rfl
  | a :: l => by simp [lexc, lexc_self l]
theorem lexc_trans : ∀ l m n : List Int, lexc l m < 0 → lexc m n < 0 → lexc l n < 0
  | [], [], _, h, _ => by simp [lexc] at h
  | [], _ :: _, [], _, h => by simp [lexc] at h
  | [], _ :: _, _ :: _, _, _ => by simp [lexc]
  | _ :: _, [], _, h, _ => by simp [lexc] at h
  | _ :: _, _ :: _, [], _, h => by simp [lexc] at h
  | a :: l, b :: m, c :: n, h1, h2 => by
    simp only [lexc] at h1 h2 ⊢
    by_cases e1 : a < b
    · by_cases e2 : b < c
      · rw [if_pos (by omega)]; omega
      · rw [if_neg e2] at h2
        by_cases e3 : c < b
        · rw [if_pos e3] at h2; omega
        · rw [if_pos (by omega)]; omega
    · rw [if_neg e1] at h1
      by_cases e3 : b < a
      · rw [if_pos e3] at h1; omega
      · rw [if_neg e3] at h1
        obtain rfl : a = b := by omega
        by_cases e2 : a < c
        · rw [if_pos e2]; omega
        · rw [if_neg e2] at h2 ⊢
          by_cases e4 : c < a
          · rw [if_pos e4] at h2; omega
          · rw [if_neg e4] at h2 ⊢
            exact lexc_trans l m n h1 h2
theorem lexc_tri : ∀ l m : List Int, ¬ lexc l m < 0 → ¬ lexc m l < 0 → l = m
  | [], [], _, _ => rfl
  | [], _ :: _, h, _ => by simp [lexc] at h
  | _ :: _, [], _, h => by simp [lexc] at h
  | a :: l, b :: m, h1, h2 => by
    simp only [lexc] at h1 h2
    by_cases e1 : a < b
    · rw [if_pos e1] at h1; omega
    · by_cases e2 : b < a
      · rw [if_pos e2] at h2; omega
      · rw [if_neg e1, if_neg e2] at h1
        rw [if_neg e2, if_neg e1] at h2
        rw [lexc_tri l m h1 h2, show a = b by omega]
/-- The order of names. -/
def nlt (x y : Nm) : Prop := lexc x.key y.key < 0
theorem slo_nm : SLO nlt :=
  ⟨fun x h => by unfold nlt at h; rw [lexc_self] at h; omega, fun x y z => lexc_trans _ _ _, fun x y h1 h2 => Nm.key_inj (lexc_tri _ _ h1 h2)⟩
def cfN (x y : Nm) : Int := cmpN x.1 y.1
theorem ltOf_cfN (x y : Nm) : ltOf cfN x y = true ↔ nlt x y := by
  unfold ltOf cfN cmpN nlt Nm.key
  rw [decide_eq_true_eq]
theorem swo_nm : Sort.SWO (ltOf cfN) where
  irrefl := fun x => by
    rw [← Bool.not_eq_true, ltOf_cfN]; exact slo_nm.irrefl x
  trans := fun x y z h1 h2 => by
    rw [ltOf_cfN] at *; exact slo_nm.trans _ _ _ h1 h2
  ntrans := fun x y z h1 h2 => by
    rw [← Bool.not_eq_true, ltOf_cfN] at *
    intro h3
    by_cases e : nlt y x
    · exact h2 (slo_nm.trans _ _ _ e h3)
    · have := slo_nm.tri _ _ h1 e
      subst this
      exact h2 h3
def encN (n : Nm) : Value := .string n.1

theorem grow_of_below {W W' : World} (h : Below W.heap.size W W') (hd : W.drawn ≤ W'.drawn) : ∃ q os, W' = Sort.grow (W.drewN q) os := by
  refine ⟨W'.drawn - W.drawn, W'.heap.extract W.heap.size W'.heap.size, ?_⟩
  have h1 : W'.heap = W.heap ++ W'.heap.extract W.heap.size W'.heap.size := by
    apply Array.ext_getElem?
    intro i
    rw [Array.getElem?_append]
    split
    · rename_i hi
      rw [h.block i hi]
    · rename_i hi
      rw [Array.getElem?_extract]
      have := h.size
      by_cases hj : i < W'.heap.size
      · rw [if_pos (by omega)]
        congr 1
        omega
      · rw [if_neg (by omega), Array.getElem?_eq_none (by omega)]
  have h2 := h.os
  have h3 := h.tape
  have h4 := h.output
  unfold Sort.grow World.drewN
  cases W'
  simp only at h1 h2 h3 h4 hd ⊢
  simp only [World.mk.injEq]
  refine ⟨h1, h3, by omega, h2, h4⟩

theorem cmpLays_nm (hA : AtoiSaid) (blk off size : Nat) (w : World) : CmpLays1 Tryz.prog 90 #[] encN cfN blk off size w := by
  intro m os dk _ x y
  have h := calls_drawn (sortc_any hA x.1 y.1 x.2.2 y.2.2 x.2.1 y.2.1 (sortWorld encN w blk off m dk os))
  refine h.mono ?_
  rintro e w' ⟨⟨rfl, hb⟩, hd⟩
  exact ⟨rfl, grow_of_below hb (hd (by simp))⟩
end Go.Proofs.YtcbgngkalplafaaGreatDoor
