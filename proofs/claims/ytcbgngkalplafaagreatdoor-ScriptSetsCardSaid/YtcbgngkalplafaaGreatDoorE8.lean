/- append of a slice that reads, at a step of a region that draws. -/
import Derived.Test.YtcbgngkalplafaaGreatDoorD1
namespace Go.Proofs.YtcbgngkalplafaaGreatDoor
open Go.RowKit Go.Shelf Lin

/-- 'append(buf, xs...)' where buf is a slice of our own and xs reads as l: what was laid elsewhere stays. -/
theorem wp_append_rd {α : Type} {enc : α → Value} {w : World} {o : Oper} {a : Act} {K : Act → World → Prop} {Q : Exit → Act → World → Prop} (s x : Operand) (t : TypeId)
    (ho : o.op = .call { callee := .builtin .append, args := #[s, x], argTypes := #[t, t] })
    (base : Nat) (e : TypeId) (i : TypeInfo) (z : Value) (bytes : Nat) (ht : Tryz.prog.underlying t = some (.slice e)) (hi : Tryz.prog.info? e = some i) (hz : i.zero = some z)
    (hsize : i.size = 1) (hby : i.bytes = bytes) (hzs : z.cells.size = 1) (hb16 : bytes ≤ 16)
    (v : Value) (n : Nat) (xs : List Value) (hs : a.eval s = v) (hown : w.ownsRow base e 1 v n xs)
    (hO : ∀ y : α, (enc y).oneCell' = true) (l : List α) (A : Option Addr) (c : Nat) (hx : a.eval x = .slice A l.length c) (hr : Rd enc w (.slice A l.length c) l)
    (hn : n + l.length ≤ 1000000) (hbase : base ≤ w.heap.size)
    (h : ∀ v' w', w'.ownsRow base e 1 v' (n + l.length) (xs ++ l.map enc) → w.grownBy w' v.ownBlock → Below base w w' → K (a.put o.dst v') w') : o.wp Tryz.prog a w K Q := by
  rcases hr.plain with rfl | ⟨b, off, rfl⟩
  · have hl : l = [] := by
      rcases hr with ⟨h1, _⟩ | ⟨_, b, off, c', e', _⟩
      · exact h1
      · cases e'
    subst hl
    have hrun : (Builtin.append_ #[t, t] o.type #[v, .slice none 0 c]).run Tryz.prog w = .ok v w := by
      rcases hown.2 with ⟨rfl, rfl⟩ | ⟨g, cap, cur, rfl, _, _, hnc, _⟩
      · simp [Builtin.append_, run_underlying ht, sizeOf, typeInfo, hi, Builtin.lenOf, Builtin.firstCells]
      · simp [Builtin.append_, run_underlying ht, sizeOf, typeInfo, hi, Builtin.lenOf, Builtin.firstCells, hnc, storeCells]
    unfold Oper.wp
    simp only [List.length_nil] at hx
    simp [execOp, ho, resolve, invoke, builtin, hs, hx, hrun, Result.andThen]
    exact h _ _ (by simpa using hown) ⟨rfl, rfl, rfl, Nat.le_refl _, fun _ _ _ => rfl⟩ (Below.refl _ _)
  · refine wp_append_own w s x t ho base e i z 1 bytes ht hi hz hsize hby hzs (by decide) v n xs hs hown ⟨b, off, none⟩ l.length c (l.map enc) hx (by simp) (src_cells hr) ?_ (by simp only [maxLen]; omega) ?_ hbase ?_
    · intro u hu
      obtain ⟨y, -, rfl⟩ := List.mem_map.1 hu
      exact hO y
    · exact Nat.le_trans (Nat.mul_le_mul hn hb16) (by decide)
    · intro v' w' h1 hg _
      exact h v' w' h1 hg ((Below.refl base w).grown hg hbase fun k hk => (hown.lt k hk).1)
end Go.Proofs.YtcbgngkalplafaaGreatDoor
