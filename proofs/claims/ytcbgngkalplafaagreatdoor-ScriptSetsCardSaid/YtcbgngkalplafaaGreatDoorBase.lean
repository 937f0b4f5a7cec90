/- Small facts on worlds: cells of new blocks, what lies on. -/
import Derived.RangeFuncNested
import Derived.RangeFuncBound
import Derived.RangeFuncCalls
import Derived.RangeFuncLeaves
import Derived.Shelf.Abstract
import Derived.Shelf.RegionOpen
import Derived.WalkKit
import Derived.OwnWalkIn
import Derived.TacticsInMore
import Derived.LoopNIn
import Derived.LoopIn
import Derived.Lib.Hide
import Derived.Test.YtcbgngkalplafaaGreatDoorProg
namespace Go.Proofs.YtcbgngkalplafaaGreatDoor
open Go.RowKit Go.Shelf

theorem cellA (w : World) (cs : Array Value) (t : TypeId) (j : Nat) (v : Value) (h : cs[j]? = some v) : (w.alloc (.cells cs t)).cell? ⟨w.heap.size, j, none⟩ = some v := by
  have : (w.heap.push (.cells cs t))[w.heap.size]? = some (.cells cs t) := by simp
  simp only [World.cell?, World.alloc, this]
  simpa using h
theorem frozenA (w : World) (cs : Array Value) (t : TypeId) (j : Nat) : (w.alloc (.cells cs t)).frozen? ⟨w.heap.size, j, none⟩ = false := by
  have : (w.heap.push (.cells cs t))[w.heap.size]? = some (.cells cs t) := by simp
  simp only [World.frozen?, World.alloc, this]
  simp
theorem cellO {w : World} {a : Addr} {v : Value} (o : Obj) (h : w.cell? a = some v) : (w.alloc o).cell? a = some v := by
  have hlt := World.block_lt_of_cell? w a h
  have : (w.heap.push o)[a.block]? = w.heap[a.block]? := by rw [Array.getElem?_push]; rw [if_neg (by omega)]
  simp only [World.cell?, World.alloc, this] at h ⊢
  exact h
theorem frozenO {w : World} {a : Addr} (o : Obj) (h : a.block < w.heap.size) : (w.alloc o).frozen? a = w.frozen? a := by
  have : (w.heap.push o)[a.block]? = w.heap[a.block]? := by rw [Array.getElem?_push]; rw [if_neg (by omega)]
  simp only [World.frozen?, World.alloc, this]
theorem heapA (w : World) (o : Obj) : (w.alloc o).heap[w.heap.size]? = some o := World.alloc_heap_new w o
theorem cellS {w : World} {p : Addr} {u v : Value} (h : w.cell? p = some u) : (w.setCell p v).cell? p = some v := World.cell?_setCell_same' _ _ _ (by rw [h]; rfl)
theorem cellN {w : World} {p q : Addr} {u v : Value} (hne : q ≠ p) (h : w.cell? q = some u) : (w.setCell p v).cell? q = some u := by
  rw [World.cell?_setCell_other]
  · exact h
  · exact fun e => hne e.symm
theorem cell_of_heap {w : World} {b : Nat} {c : Array Value} {t : TypeId} {fr : Nat × Nat} (h : w.heap[b]? = some (Obj.cells c t fr)) (j : Nat) (v : Value) (hv : c[j]? = some v) : w.cell? ⟨b, j, none⟩ = some v := by
  simp only [World.cell?, h]
  simpa using hv
theorem sizeA (w : World) (o : Obj) : (w.alloc o).heap.size = w.heap.size + 1 := by simp
theorem bcell {W w1 : World} (hb : Below W.heap.size W w1) : (∀ b o, b < W.heap.size → w1.cell? ⟨b, o, none⟩ = W.cell? ⟨b, o, none⟩) ∧ (∀ b o, b < W.heap.size → w1.frozen? ⟨b, o, none⟩ = W.frozen? ⟨b, o, none⟩) :=
  ⟨fun b o h => hb.cell (p := ⟨b, o, none⟩) h, fun b o h => hb.frozen (p := ⟨b, o, none⟩) h⟩

/-- A byte of a string, as a number. -/
def byt (s : ByteArray) (k : Nat) : Int := if h : k < s.size then ((s[k]'h).toNat : Int) else 0
theorem byt_at (s : ByteArray) (k : Nat) : ∀ h : k < s.size, ((s[k]'h).toNat : Int) = byt s k := fun h => by simp [byt, h]
theorem byt_range (s : ByteArray) (k : Nat) : 0 ≤ byt s k ∧ byt s k ≤ 255 := by
  unfold byt
  split
  · rename_i h
    have := (s[k]'h).toNat_lt
    omega
  · omega
theorem byt_drop (s : ByteArray) (i j : Nat) (h : j < (s.data.toList.drop i).length) : byt s (i + j) = ((s.data.toList.drop i)[j].toNat : Int) := by
  have h2 : i + j < s.size := by have e : s.data.toList.length = s.size := by simp
                                 simp only [List.length_drop] at h; omega
  simp only [byt, h2, dif_pos, List.getElem_drop]
  rfl
theorem below_then {B : Nat} {w w1 w2 : World} (h : Below B w w1) (hB : B ≤ w1.heap.size) (k : Below w1.heap.size w1 w2) : Below B w w2 :=
  h.trans ⟨k.os, k.tape, k.output, k.size, fun i hi => k.block i (Nat.lt_of_lt_of_le hi hB)⟩
theorem below_of {B C : Nat} {w w1 : World} (h : Below C w w1) (hB : B ≤ C) : Below B w w1 := ⟨h.os, h.tape, h.output, h.size, fun i hi => h.block i (Nat.lt_of_lt_of_le hi hB)⟩
end Go.Proofs.YtcbgngkalplafaaGreatDoor
