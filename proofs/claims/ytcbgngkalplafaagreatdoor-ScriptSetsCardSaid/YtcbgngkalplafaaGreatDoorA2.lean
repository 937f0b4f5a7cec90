/- lineage.parse: the ordinals of a name, or the first error. -/
import Derived.RangeFuncBox
import Derived.Maps.AppendAt
import Derived.Test.YtcbgngkalplafaaGreatDoorA1
namespace Go.Proofs.YtcbgngkalplafaaGreatDoor
open Go.RowKit Go.Shelf Lin
attribute [local go_sem] Oper.semAt_some

theorem grown_of_below' {w w1 : World} (h : Below w.heap.size w w1) (row : Option Nat) : w.grownBy w1 row := ⟨h.os, h.tape, h.output, h.size, fun i hi _ => h.block i hi⟩

set_option maxHeartbeats 1000000 in
theorem partsf_in (n : Nat) (s : ByteArray) (w : World) :
    CallsIn Fence.wide n Tryz.prog 86 #[.string s] w fun e w' => e = .returned (.func (.func 103) #[] #[.pointer (some ⟨w.heap.size, 0, none⟩)]) ∧ w' = w.alloc (.cells #[.string s] 9) := by
  refine callsIn_of_wp Tryz.func86 rfl trivial ?_ rfl
  simp only [Tryz.ntmps86, List.size_toArray, List.length_cons, List.length_nil, Nat.reduceAdd, Nat.reduceSub, Array.replicate_succ, Array.replicate_zero, List.push_toArray, List.append_toArray, List.nil_append, List.cons_append]
  gi_wp2
  go_ret
  exact ⟨rfl, rfl⟩

theorem parts_stops (hA : AtoiSaid) (n : Nat) (hn : 1 ≤ n) (Bn : Nat) (s : ByteArray) (hs : s.size ≤ 9223372036854775807) (w : World) (hb : Boxed w Bn 9 (.string s)) :
    SeqStopsK Fence.wide n Tryz.prog 103 #[.pointer (some ⟨Bn, 0, none⟩)] encP KpP (fun ys => ys = parts s.data.toList) (fun pre => pre <+: parts s.data.toList) 9 w := fun l J Jx W hW hJ _ hY h0 =>
  parts1_in hA n hn l Bn s hs J Jx (fun xs A B h hb => hJ xs A B none h (grown_of_below' hb none) (fun r e => by cases e)) hY W ((hW.block Bn hb.lt).trans hb) h0

theorem Tryz_info3 : (Tryz.prog.info? 3).map (fun i => (i.zero, i.size, i.bytes)) = some (some (.int .i64 0), 1, 8) := by kernel_rfl

theorem KpP_t {A B C : World} (h : KpP A B) (k : KpP B C) : KpP A C := fun b c t fr ht hA => k b c t fr ht (h b c t fr ht hA)
theorem KpP_b {w : World} (W : World) (l : Nat) (o o' : Obj) (_ : w.heap.size ≤ l) (h : W.heap[l]? = some o) (ho : o.isCells = false) (_ : o.isWalk = false) : KpP W (W.putObj l o') := fun b c t fr _ hb => by
  have hne : b ≠ l := fun e => by subst e; rw [hb] at h; cases h; cases ho
  exact (World.putObj_heap_other hne).trans hb
theorem KpP_refl (W : World) : KpP W W := fun _ _ _ _ _ h => h
theorem KpP_alloc (W : World) (o : Obj) : KpP W (W.alloc o) := fun b c t fr _ h => (World.grownBy_alloc W o none).block b (Array.getElem?_eq_some_iff.1 h).1 (by simp) |>.trans h
end Go.Proofs.YtcbgngkalplafaaGreatDoor
