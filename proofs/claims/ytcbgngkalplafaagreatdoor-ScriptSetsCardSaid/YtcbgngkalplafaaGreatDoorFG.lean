/- Drawn regions by one relation on what has come up; the laws of their operations; the drawn regions of ScriptSets. -/
import Derived.Test.YtcbgngkalplafaaGreatDoorE8
import Derived.Maps.AppendAt
import Derived.Test.YtcbgngkalplafaaGreatDoorE6
import Derived.Test.YtcbgngkalplafaaGreatDoorPure4
import Derived.Test.YtcbgngkalplafaaGreatDoorC7
import Derived.Test.YtcbgngkalplafaaGreatDoorC1
/- A drawn region by one relation on what has come up, on the frame and on the world: every order at once. -/
namespace Go.Proofs.YtcbgngkalplafaaGreatDoor
open Go.RowKit Go.Shelf

section
variable {P : Program} {ops : Array Oper} {Q : Exit → Act → World → Prop}

/-- How many have not come up yet. -/
def unl (n : Nat) (l : Array Bool) : Nat := ((List.range n).filter fun i => !l.getD i true).length
theorem filter_lt {α : Type} (p q : α → Bool) (h : ∀ x, q x = true → p x = true) (i : α) (hp : p i = true) (hq : q i = false) : ∀ l : List α, i ∈ l → (l.filter q).length < (l.filter p).length
  | [], hi => by cases hi
  | x :: l, hi => by
    have hle : ∀ l : List α, (l.filter q).length ≤ (l.filter p).length := by
      intro l
      induction l with
      | nil => simp
      | cons y l ih =>
        by_cases h1 : q y = true
        · simp [h1, h y h1]; exact ih
        · by_cases h2 : p y = true
          · simp [h1, h2]; omega
          · simp [h1, h2]; exact ih
    have hl := hle l
    rcases List.mem_cons.1 hi with rfl | hi
    · simp [hp, hq]; omega
    · have := filter_lt p q h i hp hq l hi
      by_cases h1 : q x = true
      · simp [h1, h x h1]; exact this
      · by_cases h2 : p x = true
        · simp [h1, h2]; omega
        · simp [h1, h2]; exact this
theorem unl_set {n : Nat} {l : Array Bool} {i : Nat} (hi : i < n) (h : l.getD i true = false) : unl n (l.setIfInBounds i true) < unl n l := by
  unfold unl
  have hlt : i < l.size := by
    rcases Nat.lt_or_ge i l.size with h' | h'
    · exact h'
    · simp [Array.getElem?_eq_none h'] at h
  refine filter_lt _ _ ?_ i (by rw [h]; rfl) ?_ _ (List.mem_range.2 hi)
  · intro x hx
    by_cases hxi : i = x
    · subst hxi; rw [h]; rfl
    · rw [getD_set_ne true hxi] at hx; exact hx
  · simp [hlt]

/-- Edges lead back. -/
def edgesBack (ops : Array Oper) : Bool := (List.range ops.size).all fun i => ((ops[i]?).map fun o => o.after.all fun e => decide (e.on < i)).getD true

theorem region_J {id : Nat} {a : Act} {w : World} (J : (Nat → Bool) → Act → World → Prop) (hm : P.follows .mixedOrders = true) (hback : edgesBack ops = true)
    (h0 : J (fun _ => false) a { w with drawn := w.drawn + 1 })
    (hstep : ∀ L a w i o, J L a w → ops[i]? = some o → L i = false → (∀ e ∈ o.after, Region.binds .any e = true → L e.on = true) → wpOp P ops Q i (J (fun k => if k = i then true else L k)) a w)
    (hend : ∀ L a w, J L a w → (∀ i, i < ops.size → L i = true) → Q .normal a w) : (Code.region id ops true).wp P Q a w := by
  refine wp_region_any hm ?_
  have key : ∀ (fuel : Nat) (l : Array Bool) (a : Act) (w : World), l.size = ops.size → J (fun k => l.getD k false) a w → unl ops.size l ≤ fuel → wpAny P .any ops Q fuel l a w := by
    intro fuel
    have hend' : ∀ (l : Array Bool) (a : Act) (w : World), l.size = ops.size → J (fun k => l.getD k false) a w → Region.ready .any ops l = [] → Q .normal a w := by
      intro l a w hl hj hr
      refine hend _ a w hj ?_
      intro i
      induction i using Nat.strongRecOn with
      | ind i ih =>
        intro hi
        rcases hv : l.getD i false with _ | _
        · exfalso
          have hlt : i < l.size := by omega
          have hmem : i ∈ Region.ready .any ops l := by
            rw [mem_ready]
            refine ⟨?_, ops[i], Array.getElem?_eq_getElem hi, ?_⟩
            · simpa [hlt] using hv
            · intro e he _
              have hb : e.on < i := by
                unfold edgesBack at hback
                have h1 := List.all_eq_true.1 hback i (List.mem_range.2 hi)
                rw [Array.getElem?_eq_getElem hi] at h1
                simp only [Option.map_some, Option.getD_some] at h1
                have h2 := Array.all_eq_true_iff_forall_mem.1 h1 e he
                simpa using h2
              exact ih e.on hb (by omega)
          rw [hr] at hmem
          cases hmem
        · rfl
    induction fuel with
    | zero =>
      intro l a w hl hj hu
      have hr : Region.ready .any ops l = [] := by
        rw [List.eq_nil_iff_forall_not_mem]
        intro i hi
        rw [mem_ready] at hi
        obtain ⟨h1, o, ho, -⟩ := hi
        have := unl_set (n := ops.size) (Array.getElem?_eq_some_iff.1 ho).1 h1
        omega
      exact ⟨hr, hend' l a w hl hj hr⟩
    | succ fuel ih =>
      intro l a w hl hj hu
      refine ⟨hend' l a w hl hj, fun i hi => ?_⟩
      have hi' := mem_ready.1 hi
      obtain ⟨h1, o, ho, hd⟩ := hi'
      have hlt : i < ops.size := (Array.getElem?_eq_some_iff.1 ho).1
      have hlt' : i < l.size := by omega
      refine wpOp_mono (fun a' w' h => ?_) (hstep _ a w i o hj ho (by simpa [hlt'] using h1) (fun e he hb => by simpa using hd e he hb))
      refine ih _ a' w' (by simpa using hl) ?_ (by have := unl_set (n := ops.size) hlt h1; omega)
      have : (fun k => (l.setIfInBounds i true).getD k false) = fun k => if k = i then true else l.getD k false := by
        funext k
        by_cases hk : k = i
        · subst hk; simp [hlt']
        · rw [getD_set_ne false (fun e => hk e.symm), if_neg hk]
      rw [this]
      exact h
  refine key _ _ a _ (by simp) ?_ ?_
  · have : (fun k => (Array.replicate ops.size false).getD k false) = fun _ => false := by
      funext k
      simp [Array.getElem?_replicate]
      split <;> rfl
    rw [this]
    exact h0
  · unfold unl
    exact Nat.le_trans (List.length_filter_le _ _) (by simp)

/-- An operation of no guard that leaves a value. -/
theorem wpOp_val {i : Nat} {o : Oper} {a : Act} {w w' : World} {v : Value} {K : Act → World → Prop} (hi : ops[i]? = some o) (hg : o.guard = none) (hr : (execOp a.eval o).run P w = .ok (.value v) w') (h : K (a.put o.dst v) w') : wpOp P ops Q i K a w := by
  unfold wpOp
  simp only [hi, Region.wanted, hg, if_true]
  left
  unfold Oper.wp
  rw [hr]
  exact h
theorem wpOp_wp {i : Nat} {o : Oper} {a : Act} {w : World} {K : Act → World → Prop} (hi : ops[i]? = some o) (hg : o.guard = none) (h : o.wp P a w K Q) : wpOp P ops Q i K a w := by
  unfold wpOp
  simp only [hi, Region.wanted, hg, if_true]
  exact .inl h
end

/-- The region with this number. -/
def getRegion (id : Nat) : Code → Option (Array Oper)
  | .region i ops _ => if i = id then some ops else none
  | .seq a b => (getRegion id a).or (getRegion id b)
  | .cond _ a b => (getRegion id a).or (getRegion id b)
  | .block _ b => getRegion id b
  | .loop b => getRegion id b
  | .scope b => getRegion id b
  | _ => none
end Go.Proofs.YtcbgngkalplafaaGreatDoor
/- The operations of drawn regions, one law for each kind, over any frame. -/
namespace Go.Proofs.YtcbgngkalplafaaGreatDoor
open Go.RowKit Go.Shelf

section
variable {o : Oper} {a : Act} {w : World} {K : Act → World → Prop} {Q : Exit → Act → World → Prop}

set_option maxRecDepth 100000 in
theorem ow_fieldAddr0 {x : Operand} {b : Nat} (ho : o.op = .fieldAddr 29 x 0) (hx : a.eval x = .pointer (some ⟨b, 0, none⟩))
    (h : K (a.put o.dst (.pointer (some ⟨b, 0, none⟩))) w) : o.wp Tryz.prog a w K Q := by
  have hu29 := Tryz.underlying29
  unfold Oper.wp execOp
  rw [ho]
  generalize a.eval = ev at hx ⊢
  go_simp
  exact h
set_option maxRecDepth 100000 in
theorem ow_fieldAddr1 {x : Operand} {b : Nat} (ho : o.op = .fieldAddr 29 x 1) (hx : a.eval x = .pointer (some ⟨b, 0, none⟩))
    (h : K (a.put o.dst (.pointer (some ⟨b, 1, none⟩))) w) : o.wp Tryz.prog a w K Q := by
  have hu29 := Tryz.underlying29
  unfold Oper.wp execOp
  rw [ho]
  generalize a.eval = ev at hx ⊢
  go_simp
  exact h
set_option maxRecDepth 100000 in
theorem ow_load26 {x : Operand} {p : Addr} {v : Value} (ho : o.op = .load 26 x) (hx : a.eval x = .pointer (some p)) (hc : w.cell? p = some v)
    (h : K (a.put o.dst v) w) : o.wp Tryz.prog a w K Q := by
  have hu := Tryz.underlying26
  unfold Oper.wp execOp
  rw [ho]
  generalize a.eval = ev at hx ⊢
  go_simp
  exact h
set_option maxRecDepth 100000 in
theorem ow_load27 {x : Operand} {p : Addr} {v : Value} (ho : o.op = .load 27 x) (hx : a.eval x = .pointer (some p)) (hc : w.cell? p = some v)
    (h : K (a.put o.dst v) w) : o.wp Tryz.prog a w K Q := by
  have hu := Tryz.underlying27
  unfold Oper.wp execOp
  rw [ho]
  generalize a.eval = ev at hx ⊢
  go_simp
  exact h
set_option maxRecDepth 100000 in
theorem ow_load29 {x : Operand} {b : Nat} {u v : Value} (ho : o.op = .load 29 x) (hx : a.eval x = .pointer (some ⟨b, 0, none⟩)) (hc : w.cell? ⟨b, 0, none⟩ = some u) (hd : w.cell? ⟨b, 1, none⟩ = some v)
    (h : K (a.put o.dst (.agg #[u, v])) w) : o.wp Tryz.prog a w K Q := by
  have hu29 := Tryz.underlying29
  unfold Oper.wp execOp
  rw [ho]
  generalize a.eval = ev at hx ⊢
  go_simp
  exact h
set_option maxRecDepth 100000 in
theorem ow_alloc29 (ho : o.op = .alloc 29) (h : K (a.put o.dst (.pointer (some ⟨w.heap.size, 0, none⟩))) (w.alloc (.cells #[.slice none 0 0, .slice none 0 0] 29))) : o.wp Tryz.prog a w K Q := by
  have hu29 := Tryz.underlying29
  unfold Oper.wp execOp
  rw [ho]
  go_simp
  exact h
set_option maxRecDepth 100000 in
theorem ow_bs26 (ho : o.op = .buildSlice 26 0 #[]) (h : K (a.put o.dst (.slice (some ⟨w.heap.size, 0, none⟩) 0 0)) (w.alloc (.cells #[] 3))) : o.wp Tryz.prog a w K Q := by
  have hu := Tryz.underlying26
  have hu3 := Tryz.underlying3
  unfold Oper.wp execOp
  rw [ho]
  go_simp
  exact h
set_option maxRecDepth 100000 in
theorem ow_bs27 (ho : o.op = .buildSlice 27 0 #[]) (h : K (a.put o.dst (.slice (some ⟨w.heap.size, 0, none⟩) 0 0)) (w.alloc (.cells #[] 47))) : o.wp Tryz.prog a w K Q := by
  have hu := Tryz.underlying27
  have hu3 := Tryz.underlying47
  unfold Oper.wp execOp
  rw [ho]
  go_simp
  exact h
set_option maxRecDepth 100000 in
theorem ow_build29 {x y : Operand} {A B : Option Addr} {n c m d : Nat} (ho : o.op = .build 29 #[(0, x), (1, y)]) (hx : a.eval x = .slice A n c) (hy : a.eval y = .slice B m d) (h : K (a.put o.dst (.agg #[.slice A n c, .slice B m d])) w) : o.wp Tryz.prog a w K Q := by
  have hu29 := Tryz.underlying29
  unfold Oper.wp execOp
  rw [ho]
  generalize a.eval = ev at hx hy ⊢
  go_simp
  exact h
set_option maxRecDepth 100000 in
theorem ow_store29 {x y : Operand} {b : Nat} {A B : Option Addr} {n c m d : Nat} {u0 v0 : Value} (ho : o.op = .store 29 x y) (hx : a.eval x = .pointer (some ⟨b, 0, none⟩)) (hy : a.eval y = .agg #[.slice A n c, .slice B m d])
    (hc : w.heap[b]? = some (.cells #[u0, v0] 29 (0, 0))) (h : K (a.put o.dst undef) ((w.setCell ⟨b, 0, none⟩ (.slice A n c)).setCell ⟨b, 1, none⟩ (.slice B m d))) : o.wp Tryz.prog a w K Q := by
  have hu29 := Tryz.underlying29
  have h0 : w.cell? ⟨b, 0, none⟩ = some u0 := cell_of_heap hc 0 _ rfl
  have h1 : w.cell? ⟨b, 1, none⟩ = some v0 := cell_of_heap hc 1 _ rfl
  have f0 := frozen_of hc 0
  have f1 := frozen_of hc 1
  unfold Oper.wp execOp
  rw [ho]
  generalize a.eval = ev at hx hy ⊢
  go_simp
  exact h
set_option maxRecDepth 100000 in
theorem ow_call1 {f : Nat} {x : Operand} {t : TypeId} {R : Ending → World → Prop} (ho : o.op = .call { callee := .value (.func f), args := #[x], argTypes := #[t] })
    (hf : ∀ args w, (callFunc f args).run Tryz.prog w = .ok (.enter f args) w) (hc : Calls Tryz.prog f #[a.eval x] w R) (hr : ∀ e w', R e w' → ∃ v, e = .returned v ∧ K (a.put o.dst v) w') : o.wp Tryz.prog a w K Q := by
  unfold Oper.wp execOp
  rw [ho]
  have hfe : a.eval (.func f) = .func (.func f) #[] #[] := rfl
  generalize a.eval = ev at hc hfe ⊢
  go_simp
  refine hc.mono ?_
  intro e w' h
  obtain ⟨v, rfl, h'⟩ := hr e w' h
  exact h'
set_option maxRecDepth 100000 in
theorem ow_call2 {f : Nat} {x y : Operand} {t s : TypeId} {R : Ending → World → Prop} (ho : o.op = .call { callee := .value (.func f), args := #[x, y], argTypes := #[t, s] })
    (hf : ∀ args w, (callFunc f args).run Tryz.prog w = .ok (.enter f args) w) (hc : Calls Tryz.prog f #[a.eval x, a.eval y] w R) (hr : ∀ e w', R e w' → ∃ v, e = .returned v ∧ K (a.put o.dst v) w') : o.wp Tryz.prog a w K Q := by
  unfold Oper.wp execOp
  rw [ho]
  have hfe : a.eval (.func f) = .func (.func f) #[] #[] := rfl
  generalize a.eval = ev at hc hfe ⊢
  go_simp
  refine hc.mono ?_
  intro e w' h
  obtain ⟨v, rfl, h'⟩ := hr e w' h
  exact h'

theorem cf_of {F : FuncId} {fn : Func} (hf : Tryz.prog.funcs[F]? = some fn) (h1 : (fn.name == "runtime.NumGoroutine") = false) (h2 : fn.body.isNone = false) (args : Array Value) (w : World) : (callFunc F args).run Tryz.prog w = .ok (.enter F args) w := by
  have h1' : ¬ fn.name = "runtime.NumGoroutine" := by simpa using h1
  have h2' : ¬ fn.body = none := by intro h; rw [h] at h2; cases h2
  simp [callFunc, go_sem, hf, h1', h2']
theorem cf11 (args : Array Value) (w : World) : (callFunc 11 args).run Tryz.prog w = .ok (.enter 11 args) w := cf_of Tryz.func11 (by kernel_rfl) (by kernel_rfl) args w

/-- 'append(buf, xs...)' where buf is a slice of our own and xs reads as l: as wp_append_rd, and where the new slice lies. -/
theorem ow_append {α : Type} {enc : α → Value} (s x : Operand) (t : TypeId)
    (ho : o.op = .call { callee := .builtin .append, args := #[s, x], argTypes := #[t, t] })
    (base : Nat) (e : TypeId) (i : TypeInfo) (z : Value) (bytes : Nat) (ht : Tryz.prog.underlying t = some (.slice e)) (hi : Tryz.prog.info? e = some i) (hz : i.zero = some z)
    (hsize : i.size = 1) (hby : i.bytes = bytes) (hzs : z.cells.size = 1) (hb16 : bytes ≤ 16)
    (v : Value) (n : Nat) (xs : List Value) (hs : a.eval s = v) (hown : w.ownsRow base e 1 v n xs)
    (hO : ∀ y : α, (enc y).oneCell' = true) (l : List α) (hr : Rd enc w (a.eval x) l)
    (hn : n + l.length ≤ 1000000) (hbase : base ≤ w.heap.size)
    (h : ∀ v' w', w'.ownsRow base e 1 v' (n + l.length) (xs ++ l.map enc) → w.grownBy w' v.ownBlock → Below base w w' → (v'.ownBlock = v.ownBlock ∨ v'.ownBlock = some w.heap.size) → K (a.put o.dst v') w') : o.wp Tryz.prog a w K Q := by
  obtain ⟨A, c, hx, -⟩ := hr.slice
  rw [hx] at hr
  rcases hr.plain with rfl | ⟨b, off, rfl⟩
  · have hl : l = [] := by
      rcases hr with ⟨h1, _⟩ | ⟨_, b, off, c', e', _⟩
      · exact h1
      · cases e'
    subst hl
    have hrun : (Builtin.append_ #[t, t] o.type #[v, .slice none 0 c]).run Tryz.prog w = .ok v w := by
      rcases hown.2 with ⟨rfl, rfl⟩ | ⟨g, cap, cur, rfl, _, _, hnc, _⟩
      · simp [Builtin.append_, run_underlying ht, sizeOf, typeInfo, hi, Builtin.lenOf, Builtin.firstCells]
      · simp [Builtin.append_, run_underlying ht, sizeOf, typeInfo, hi, Builtin.lenOf, Builtin.firstCells, hnc, storeCells]
    unfold Oper.wp
    simp only [List.length_nil] at hx
    simp [execOp, ho, resolve, invoke, builtin, hs, hx, hrun, Result.andThen]
    exact h _ _ (by simpa using hown) ⟨rfl, rfl, rfl, Nat.le_refl _, fun _ _ _ => rfl⟩ (Below.refl _ _) (.inl rfl)
  · obtain ⟨v', w', hr', h1, hg, -, hat⟩ := run_append_own_at (P := Tryz.prog) w base t o.type e i z 1 bytes ht hi hz hsize hby hzs (by decide) v n xs hown ⟨b, off, none⟩ l.length c (l.map enc) (by simp) (src_cells hr)
      (by
        intro u hu
        obtain ⟨y, -, rfl⟩ := List.mem_map.1 hu
        exact hO y) (by simp only [maxLen]; omega) (Nat.le_trans (Nat.mul_le_mul hn hb16) (by decide)) hbase
    unfold Oper.wp
    simp [execOp, ho, resolve, invoke, builtin, hs, hx, hr', Result.andThen]
    exact h v' w' h1 hg ((Below.refl base w).grown hg hbase fun k hk => (hown.lt k hk).1) hat
end
end Go.Proofs.YtcbgngkalplafaaGreatDoor
/- Boxes of a Without; frames that agree outside of the slots of a region. -/
namespace Go.Proofs.YtcbgngkalplafaaGreatDoor
open Go.RowKit Go.Shelf Lin

/-- Box g holds a Without that reads as these numbers and names. -/
structure BxV (W : World) (g : Nat) (u x : Value) (is : List Int) (ls : List ByteArray) : Prop where
  hp : W.heap[g]? = some (.cells #[u, x] 29 (0, 0))
  ru : Rd (Value.int .i64) W u is
  rx : Rd Value.string W x ls
theorem BxV.below {W W' : World} {g : Nat} {u x : Value} {is : List Int} {ls : List ByteArray} (h : BxV W g u x is ls) (hb : Below W.heap.size W W') : BxV W' g u x is ls :=
  ⟨(hb.block g (Array.getElem?_eq_some_iff.1 h.hp).1).trans h.hp, h.ru.below hb, h.rx.below hb⟩
theorem BxV.rdw {W : World} {g : Nat} {u x : Value} {is : List Int} {ls : List ByteArray} (h : BxV W g u x is ls) : RdW W (.agg #[u, x]) is ls := ⟨u, x, rfl, h.ru, h.rx⟩
theorem BxV.c0 {W : World} {g : Nat} {u x : Value} {is : List Int} {ls : List ByteArray} (h : BxV W g u x is ls) : W.cell? ⟨g, 0, none⟩ = some u := cell_of_heap h.hp 0 _ rfl
theorem BxV.c1 {W : World} {g : Nat} {u x : Value} {is : List Int} {ls : List ByteArray} (h : BxV W g u x is ls) : W.cell? ⟨g, 1, none⟩ = some x := cell_of_heap h.hp 1 _ rfl
/-- The three boxes of the arguments. -/
structure B3 (w : World) (u1 x1 u2 x2 u3 x3 : Value) (ia ib ic : List Int) (la lb lc : List ByteArray) (W : World) : Prop where
  pa : W.heap[w.heap.size]? = some (.cells #[u1, x1] 29 (0, 0))
  pb : W.heap[w.heap.size + 1]? = some (.cells #[u2, x2] 29 (0, 0))
  pc : W.heap[w.heap.size + 2]? = some (.cells #[u3, x3] 29 (0, 0))
  bl : Below w.heap.size w W
  sz : w.heap.size + 3 ≤ W.heap.size
  r1 : Rd (Value.int .i64) w u1 ia
  r2 : Rd Value.string w x1 la
  r3 : Rd (Value.int .i64) w u2 ib
  r4 : Rd Value.string w x2 lb
  r5 : Rd (Value.int .i64) w u3 ic
  r6 : Rd Value.string w x3 lc
theorem B3.a {w W : World} {u1 x1 u2 x2 u3 x3 : Value} {ia ib ic : List Int} {la lb lc : List ByteArray} (h : B3 w u1 x1 u2 x2 u3 x3 ia ib ic la lb lc W) : BxV W w.heap.size u1 x1 ia la := ⟨h.pa, h.r1.below h.bl, h.r2.below h.bl⟩
theorem B3.b {w W : World} {u1 x1 u2 x2 u3 x3 : Value} {ia ib ic : List Int} {la lb lc : List ByteArray} (h : B3 w u1 x1 u2 x2 u3 x3 ia ib ic la lb lc W) : BxV W (w.heap.size + 1) u2 x2 ib lb := ⟨h.pb, h.r3.below h.bl, h.r4.below h.bl⟩
theorem B3.c {w W : World} {u1 x1 u2 x2 u3 x3 : Value} {ia ib ic : List Int} {la lb lc : List ByteArray} (h : B3 w u1 x1 u2 x2 u3 x3 ia ib ic la lb lc W) : BxV W (w.heap.size + 2) u3 x3 ic lc := ⟨h.pc, h.r5.below h.bl, h.r6.below h.bl⟩
theorem B3.upto {w W : World} {u1 x1 u2 x2 u3 x3 : Value} {ia ib ic : List Int} {la lb lc : List ByteArray} {W' : World} {C : Nat} (h : B3 w u1 x1 u2 x2 u3 x3 ia ib ic la lb lc W) (hb : Below C W W') (hC : w.heap.size + 3 ≤ C) : B3 w u1 x1 u2 x2 u3 x3 ia ib ic la lb lc W' :=
  ⟨(hb.block _ (by omega)).trans h.pa, (hb.block _ (by omega)).trans h.pb, (hb.block _ (by omega)).trans h.pc, h.bl.trans (below_of hb (by omega)), Nat.le_trans h.sz hb.size, h.r1, h.r2, h.r3, h.r4, h.r5, h.r6⟩
theorem B3.below {w W : World} {u1 x1 u2 x2 u3 x3 : Value} {ia ib ic : List Int} {la lb lc : List ByteArray} {W' : World} (h : B3 w u1 x1 u2 x2 u3 x3 ia ib ic la lb lc W) (hb : Below W.heap.size W W') : B3 w u1 x1 u2 x2 u3 x3 ia ib ic la lb lc W' := h.upto hb h.sz
theorem fewB_len {is : List Int} {ls : List ByteArray} (h : fewB is ls = true) : is.length ≤ 30 ∧ ls.length ≤ 30 := by
  simp only [fewB, Bool.and_eq_true, decide_eq_true_eq] at h
  exact ⟨h.1.1, h.1.2⟩

theorem keep1 {X Y w' : World} {o : Obj} (hb : Below Y.heap.size Y w') (hY : Y.heap = X.heap.push o) : w'.heap[X.heap.size]? = some o :=
  (hb.block _ (by rw [hY]; simp)).trans (heap_at1 hY)
theorem keep2 {X Y w' : World} {o o' : Obj} (hb : Below Y.heap.size Y w') (hY : Y.heap = (X.heap.push o).push o') : w'.heap[X.heap.size]? = some o ∧ w'.heap[X.heap.size + 1]? = some o' :=
  ⟨(hb.block _ (by rw [hY]; simp <;> omega)).trans (heap_at2 hY), (hb.block _ (by rw [hY]; simp)).trans (heap_at3 hY)⟩
theorem reach1 {X Y w' : World} (hb : Below Y.heap.size Y w') (hY : Y.heap = X.heap ∨ (∃ o, Y.heap = X.heap.push o) ∨ ∃ o o', Y.heap = (X.heap.push o).push o') (ho : Y.os = X.os) (ht : Y.tape = X.tape) (hu : Y.output = X.output) : Below X.heap.size X w' := by
  have h1 : Below X.heap.size X Y := by
    rcases hY with h | ⟨o, h⟩ | ⟨o, o', h⟩
    · exact ⟨ho, ht, hu, by rw [h]; exact Nat.le_refl _, fun i hi => by rw [h]⟩
    · exact ⟨ho, ht, hu, by rw [h]; simp, fun i hi => by rw [h, Array.getElem?_push_lt hi]; simp [hi]⟩
    · exact ⟨ho, ht, hu, by rw [h]; simp <;> omega, fun i hi => by rw [h, Array.getElem?_push_lt (by simp; omega), Array.getElem_push_lt hi]; simp [hi]⟩
  exact below_then h1 h1.size hb
theorem heapN {X : World} {o : Obj} {n : Nat} (hn : X.heap.size = n) : (X.alloc o).heap[n]? = some o := by subst hn; exact heapA X o
theorem heap_at1' {X W' : World} {o : Obj} {n : Nat} (h : W'.heap = X.heap.push o) (hn : X.heap.size = n) : W'.heap[n]? = some o := by subst hn; exact heap_at1 h
theorem set2 {W : World} {g : Nat} {a b p q : Value} (h : W.heap[g]? = some (.cells #[a, b] 29 (0, 0))) : ((W.setCell ⟨g, 0, none⟩ p).setCell ⟨g, 1, none⟩ q).heap[g]? = some (.cells #[p, q] 29 (0, 0)) := heap_set (heap_set h 0 p) 1 q
theorem skip2 {W : World} {g g' : Nat} {o : Obj} {p q : Value} (h : W.heap[g]? = some o) (hne : g ≠ g') : ((W.setCell ⟨g', 0, none⟩ p).setCell ⟨g', 1, none⟩ q).heap[g]? = some o :=
  (Below.heap_setCell _ _ _ _ hne).trans ((Below.heap_setCell _ _ _ _ hne).trans h)
theorem own_keep {w5 W : World} {base n : Nat} {e : TypeId} {v : Value} {xs : List Value} (h : w5.ownsRow base e 1 v n xs) (hk : ∀ k, base ≤ k → k < w5.heap.size → W.heap[k]? = w5.heap[k]?) : W.ownsRow base e 1 v n xs := by
  refine ⟨h.1, ?_⟩
  rcases h.2 with h1 | ⟨g, cap, cur, e1, hB, hh, r⟩
  · exact .inl h1
  · exact .inr ⟨g, cap, cur, e1, hB, (hk g hB (Array.getElem?_eq_some_iff.1 hh).1).trans hh, r⟩
theorem al_heap {w : World} {g : Nat} {o : Obj} (h : w.heap[g]? = some o) (o' : Obj) : (w.alloc o').heap[g]? = some o := (Below.heap_alloc _ _ _ (Array.getElem?_eq_some_iff.1 h).1).trans h
/-- What the walk asks of a box of the region's own: its cells, now and behind further boxes. -/
theorem boxf {w : World} {g : Nat} {a b : Value} (h : w.heap[g]? = some (.cells #[a, b] 29 (0, 0))) :
    (w.cell? ⟨g, 0, none⟩ = some a ∧ w.cell? ⟨g, 1, none⟩ = some b ∧ w.frozen? ⟨g, 0, none⟩ = false ∧ w.frozen? ⟨g, 1, none⟩ = false) ∧
    (∀ o, (w.alloc o).cell? ⟨g, 0, none⟩ = some a) ∧ (∀ o, (w.alloc o).cell? ⟨g, 1, none⟩ = some b) ∧ (∀ o, (w.alloc o).frozen? ⟨g, 0, none⟩ = false) ∧ (∀ o, (w.alloc o).frozen? ⟨g, 1, none⟩ = false) ∧
    (∀ o o', ((w.alloc o).alloc o').cell? ⟨g, 0, none⟩ = some a) ∧ (∀ o o', ((w.alloc o).alloc o').cell? ⟨g, 1, none⟩ = some b) ∧ (∀ o o', ((w.alloc o).alloc o').frozen? ⟨g, 0, none⟩ = false) ∧ (∀ o o', ((w.alloc o).alloc o').frozen? ⟨g, 1, none⟩ = false) :=
  ⟨⟨cell_of_heap h 0 _ rfl, cell_of_heap h 1 _ rfl, frozen_of h 0, frozen_of h 1⟩, fun o => cell_of_heap (al_heap h o) 0 _ rfl, fun o => cell_of_heap (al_heap h o) 1 _ rfl, fun o => frozen_of (al_heap h o) 0, fun o => frozen_of (al_heap h o) 1,
    fun o o' => cell_of_heap (al_heap (al_heap h o) o') 0 _ rfl, fun o o' => cell_of_heap (al_heap (al_heap h o) o') 1 _ rfl, fun o o' => frozen_of (al_heap (al_heap h o) o') 0, fun o o' => frozen_of (al_heap (al_heap h o) o') 1⟩
theorem later {w w' : World} {g : Nat} {o : Obj} (h : w.heap[g]? = some o) (hb : Below w.heap.size w w') : w'.heap[g]? = some o := (hb.block g (Array.getElem?_eq_some_iff.1 h).1).trans h
theorem B3.cells {w W : World} {u1 x1 u2 x2 u3 x3 : Value} {ia ib ic : List Int} {la lb lc : List ByteArray} (h : B3 w u1 x1 u2 x2 u3 x3 ia ib ic la lb lc W) :
    W.cell? ⟨w.heap.size, 0, none⟩ = some u1 ∧ W.cell? ⟨w.heap.size, 1, none⟩ = some x1 ∧ W.cell? ⟨w.heap.size + 1, 0, none⟩ = some u2 ∧ W.cell? ⟨w.heap.size + 1, 1, none⟩ = some x2 ∧ B3 w u1 x1 u2 x2 u3 x3 ia ib ic la lb lc W := ⟨h.a.c0, h.a.c1, h.b.c0, h.b.c1, h⟩
theorem B3.alloc {w W : World} {u1 x1 u2 x2 u3 x3 : Value} {ia ib ic : List Int} {la lb lc : List ByteArray} (h : B3 w u1 x1 u2 x2 u3 x3 ia ib ic la lb lc W) (o : Obj) : B3 w u1 x1 u2 x2 u3 x3 ia ib ic la lb lc (W.alloc o) := h.below ((Below.refl _ _).alloc (Nat.le_refl _) o)
theorem B3.set {w W : World} {u1 x1 u2 x2 u3 x3 : Value} {ia ib ic : List Int} {la lb lc : List ByteArray} (h : B3 w u1 x1 u2 x2 u3 x3 ia ib ic la lb lc W) {p : Addr} (hp : w.heap.size + 3 ≤ p.block) (v : Value) : B3 w u1 x1 u2 x2 u3 x3 ia ib ic la lb lc (W.setCell p v) := h.upto ((Below.refl _ _).setCell hp v) (Nat.le_refl _)
theorem B3.next {w W : World} {u1 x1 u2 x2 u3 x3 : Value} {ia ib ic : List Int} {la lb lc : List ByteArray} {o : Obj} (h : W.cell? ⟨w.heap.size, 0, none⟩ = some u1 ∧ W.cell? ⟨w.heap.size, 1, none⟩ = some x1 ∧ W.cell? ⟨w.heap.size + 1, 0, none⟩ = some u2 ∧ W.cell? ⟨w.heap.size + 1, 1, none⟩ = some x2 ∧ B3 w u1 x1 u2 x2 u3 x3 ia ib ic la lb lc W) :
    (W.alloc o).cell? ⟨w.heap.size, 0, none⟩ = some u1 ∧ (W.alloc o).cell? ⟨w.heap.size, 1, none⟩ = some x1 ∧ (W.alloc o).cell? ⟨w.heap.size + 1, 0, none⟩ = some u2 ∧ (W.alloc o).cell? ⟨w.heap.size + 1, 1, none⟩ = some x2 ∧ B3 w u1 x1 u2 x2 u3 x3 ia ib ic la lb lc (W.alloc o) := (h.2.2.2.2.alloc o).cells
theorem B3.of {w W : World} {u1 x1 u2 x2 u3 x3 : Value} {ia ib ic : List Int} {la lb lc : List ByteArray} (h : W.cell? ⟨w.heap.size, 0, none⟩ = some u1 ∧ W.cell? ⟨w.heap.size, 1, none⟩ = some x1 ∧ W.cell? ⟨w.heap.size + 1, 0, none⟩ = some u2 ∧ W.cell? ⟨w.heap.size + 1, 1, none⟩ = some x2 ∧ B3 w u1 x1 u2 x2 u3 x3 ia ib ic la lb lc W) : B3 w u1 x1 u2 x2 u3 x3 ia ib ic la lb lc W := h.2.2.2.2


/-- The frame a is as a0 outside of the slots D. -/
structure Frm (a0 : Act) (D : List Nat) (a : Act) : Prop where
  df : a.defers = a0.defers
  sz : a.tmps.size = a0.tmps.size
  at_ : ∀ k, k ∉ D → a.tmps[k]? = a0.tmps[k]?
theorem Frm.refl (a0 : Act) (D : List Nat) : Frm a0 D a0 := ⟨rfl, rfl, fun _ _ => rfl⟩
theorem Frm.put {a0 a : Act} {D : List Nat} (h : Frm a0 D a) {d : Nat} (hd : d ∈ D) (v : Value) : Frm a0 D (a.put (some d) v) :=
  ⟨h.df, by simp [Act.put, h.sz], fun k hk => by
    have hne : d ≠ k := fun e => hk (e ▸ hd)
    simp only [Act.put, Array.getElem?_setIfInBounds_ne hne]
    exact h.at_ k hk⟩
theorem Frm.eval {a0 a : Act} {D : List Nat} (h : Frm a0 D a) {k : Nat} (hk : k ∉ D) : a.eval (.tmp k) = a0.eval (.tmp k) := by
  have := h.at_ k hk
  simp only [Act.eval, Array.getD_eq_getD_getElem?, this]
theorem ev_same {a : Act} {d : Nat} {v : Value} (h : d < a.tmps.size) : (a.put (some d) v).eval (.tmp d) = v := by
  simp [Act.put, Act.eval, h]
theorem ev_ne {a : Act} {d k : Nat} {v : Value} (h : d ≠ k) : (a.put (some d) v).eval (.tmp k) = a.eval (.tmp k) := by
  simp [Act.put, Act.eval, Array.getElem?_setIfInBounds_ne h]
/-- The slots D laid anew. -/
def laid (a0 : Act) (u : Nat → Value) (D : List Nat) : Act := D.foldl (fun b k => b.put (some k) (u k)) a0
theorem laid_facts (u : Nat → Value) : ∀ (D : List Nat) (a0 : Act), (∀ k ∈ D, k < a0.tmps.size) → (laid a0 u D).defers = a0.defers ∧ (laid a0 u D).tmps.size = a0.tmps.size ∧ ∀ k, (laid a0 u D).tmps[k]? = if k ∈ D then some (u k) else a0.tmps[k]?
  | [], a0, _ => ⟨rfl, rfl, fun k => by simp [laid]⟩
  | d :: D, a0, hd => by
    have hd' : ∀ k ∈ D, k < (a0.put (some d) (u d)).tmps.size := fun k hk => by
      have := hd k (List.mem_cons_of_mem _ hk)
      simpa [Act.put] using this
    obtain ⟨h1, h2, h3⟩ := laid_facts u D (a0.put (some d) (u d)) hd'
    refine ⟨h1, by rw [show laid a0 u (d :: D) = laid (a0.put (some d) (u d)) u D from rfl, h2]; simp [Act.put], fun k => ?_⟩
    rw [show laid a0 u (d :: D) = laid (a0.put (some d) (u d)) u D from rfl, h3 k]
    by_cases hk : k ∈ D
    · simp [hk]
    · by_cases hkd : k = d
      · subst hkd
        have := hd k (List.mem_cons_self ..)
        simp [hk, Act.put, this]
      · simp [hk, hkd, Act.put, Array.getElem?_setIfInBounds_ne (fun e => hkd e.symm)]
theorem Frm.laid {a0 a : Act} {D : List Nat} (h : Frm a0 D a) (hD : ∀ k ∈ D, k < a0.tmps.size) : a = laid a0 (fun k => a.eval (.tmp k)) D := by
  obtain ⟨h1, h2, h3⟩ := laid_facts (fun k => a.eval (.tmp k)) D a0 hD
  obtain ⟨tm, df⟩ := a
  have e1 : df = (Go.Proofs.YtcbgngkalplafaaGreatDoor.laid a0 (fun k => Act.eval ⟨tm, df⟩ (.tmp k)) D).defers := by rw [h1]; exact h.df
  have e2 : tm = (Go.Proofs.YtcbgngkalplafaaGreatDoor.laid a0 (fun k => Act.eval ⟨tm, df⟩ (.tmp k)) D).tmps := by
    apply Array.ext_getElem?
    intro k
    rw [h3 k]
    by_cases hk : k ∈ D
    · have hlt : k < tm.size := by have := h.sz; simp only at this; rw [this]; exact hD k hk
      rw [if_pos hk, Array.getElem?_eq_getElem hlt]
      simp [Act.eval, hlt]
    · rw [if_neg hk]; exact h.at_ k hk
  generalize Go.Proofs.YtcbgngkalplafaaGreatDoor.laid a0 (fun k => Act.eval ⟨tm, df⟩ (.tmp k)) D = b at e1 e2
  obtain ⟨bt, bd⟩ := b
  simp only at e1 e2
  subst e1 e2
  rfl
/-- Values that have come up stay in their slots. -/
def Tab (T : List (Nat × Nat × Value)) (L : Nat → Bool) (a : Act) : Prop := ∀ e ∈ T, L e.1 = true → a.eval (.tmp e.2.1) = e.2.2
theorem Tab.put {T : List (Nat × Nat × Value)} {L : Nat → Bool} {a : Act} (h : Tab T L a) {i d : Nat} {v : Value} (hd : d < a.tmps.size) (hT : ∀ e ∈ T, (e.1 = i → e.2.1 = d ∧ e.2.2 = v) ∧ (e.1 ≠ i → e.2.1 ≠ d)) : Tab T (fun k => if k = i then true else L k) (a.put (some d) v) := by
  intro e he hL
  by_cases hi : e.1 = i
  · obtain ⟨h1, h2⟩ := (hT e he).1 hi
    rw [h1, h2]
    exact ev_same hd
  · rw [ev_ne (fun e' => (hT e he).2 hi e'.symm)]
    exact h e he (by simpa [hi] using hL)
theorem Tab.none {T : List (Nat × Nat × Value)} {L : Nat → Bool} {a : Act} (h : Tab T L a) {i : Nat} {v : Value} (hT : ∀ e ∈ T, e.1 ≠ i) : Tab T (fun k => if k = i then true else L k) (a.put none v) := by
  intro e he hL
  exact h e he (by simpa [hT e he] using hL)
theorem own_keep' {w5 W : World} {base n : Nat} {e : TypeId} {v : Value} {xs : List Value} (h : w5.ownsRow base e 1 v n xs) (hk : ∀ k, v.ownBlock = some k → k < w5.heap.size → W.heap[k]? = w5.heap[k]?) : W.ownsRow base e 1 v n xs := by
  refine ⟨h.1, ?_⟩
  rcases h.2 with h1 | ⟨g, cap, cur, e1, hB, hh, r⟩
  · exact .inl h1
  · refine .inr ⟨g, cap, cur, e1, hB, (hk g (by rw [e1]; rfl) (Array.getElem?_eq_some_iff.1 hh).1).trans hh, r⟩
theorem own_below {w5 W : World} {base n : Nat} {e : TypeId} {v : Value} {xs : List Value} (h : w5.ownsRow base e 1 v n xs) (hb : Below w5.heap.size w5 W) : W.ownsRow base e 1 v n xs := own_keep' h fun k _ hk => hb.block k hk
theorem own_grown {w5 W : World} {base n : Nat} {e : TypeId} {v : Value} {xs : List Value} {row : Option Nat} (h : w5.ownsRow base e 1 v n xs) (hg : w5.grownBy W row) (hne : ∀ k, v.ownBlock = some k → row ≠ some k) : W.ownsRow base e 1 v n xs := own_keep' h fun k hv hk => hg.block k hk fun e => hne k hv e.symm
end Go.Proofs.YtcbgngkalplafaaGreatDoor
/- The drawn region of ScriptSets that makes the sum: every order at once. -/
namespace Go.Proofs.YtcbgngkalplafaaGreatDoor
open Go.RowKit Go.Shelf Lin

/-- What an operation waits for. -/
def depsOf (o : Oper) : List Nat := (o.after.toList.filter (Region.binds .any)).map (·.on)
theorem depsOf_iff {o : Oper} {L : Nat → Bool} : (∀ e ∈ o.after, Region.binds .any e = true → L e.on = true) ↔ ∀ j ∈ depsOf o, L j = true := by
  unfold depsOf
  constructor
  · intro h j hj
    obtain ⟨e, he, rfl⟩ := List.mem_map.1 hj
    obtain ⟨h1, h2⟩ := List.mem_filter.1 he
    exact h e (Array.mem_toList_iff.1 h1) h2
  · intro h e he hb
    exact h e.on (List.mem_map.2 ⟨e, List.mem_filter.2 ⟨Array.mem_toList_iff.2 he, hb⟩, rfl⟩)
/-- One more has come up. -/
def upd (L : Nat → Bool) (i : Nat) : Nat → Bool := fun k => if k = i then true else L k
theorem upd_ne {L : Nat → Bool} {i k : Nat} (h : k ≠ i) : upd L i k = L k := if_neg h
theorem upd_self {L : Nat → Bool} {i : Nat} : upd L i i = true := if_pos rfl

/-- As region_J; what has come up is closed under what it waited for. -/
theorem region_JC {P : Program} {ops : Array Oper} {Q : Exit → Act → World → Prop} {id : Nat} {a : Act} {w : World} (J : (Nat → Bool) → Act → World → Prop) (hm : P.follows .mixedOrders = true) (hback : edgesBack ops = true)
    (h0 : J (fun _ => false) a { w with drawn := w.drawn + 1 })
    (hstep : ∀ L a w i o, J L a w → (∀ i o, ops[i]? = some o → L i = true → ∀ j ∈ depsOf o, L j = true) → ops[i]? = some o → L i = false → (∀ j ∈ depsOf o, L j = true) → wpOp P ops Q i (J (upd L i)) a w)
    (hend : ∀ L a w, J L a w → (∀ i, i < ops.size → L i = true) → Q .normal a w) : (Code.region id ops true).wp P Q a w := by
  refine region_J (fun L a w => J L a w ∧ ∀ i o, ops[i]? = some o → L i = true → ∀ j ∈ depsOf o, L j = true) hm hback ⟨h0, fun i o _ h => by cases h⟩ ?_ (fun L a w h => hend L a w h.1)
  intro L a w i o ⟨hj, hcl⟩ ho hi hd
  refine wpOp_mono (fun a' w' h => ⟨h, ?_⟩) (hstep L a w i o hj hcl ho hi (depsOf_iff.1 hd))
  intro k o' ho' hk j hj'
  by_cases hji : j = i
  · subst hji; exact if_pos rfl
  · show (if j = i then true else L j) = true
    rw [if_neg hji]
    replace hk : (if k = i then true else L k) = true := hk
    by_cases hki : k = i
    · subst hki
      rw [ho] at ho'
      cases ho'
      exact depsOf_iff.1 hd j hj'
    · rw [if_neg hki] at hk
      exact hcl k o' ho' hk j hj'

noncomputable def ops4 : Array Oper := ((Tryz.f4.body).bind (getRegion 4)).getD #[]
theorem q4_0 : ∃ o, ops4[0]? = some o ∧ o.guard = none ∧ o.dst = some 38 ∧ o.op = .buildSlice 26 0 #[] ∧ depsOf o = [] := ⟨_, rfl, rfl, rfl, rfl, rfl⟩
theorem q4_1 : ∃ o, ops4[1]? = some o ∧ o.guard = none ∧ o.dst = some 39 ∧ o.op = .fieldAddr 29 (.tmp 3) 0 ∧ depsOf o = [] := ⟨_, rfl, rfl, rfl, rfl, rfl⟩
theorem q4_2 : ∃ o, ops4[2]? = some o ∧ o.guard = none ∧ o.dst = some 40 ∧ o.op = .load 26 (.tmp 39) ∧ depsOf o = [1] := ⟨_, rfl, rfl, rfl, rfl, rfl⟩
theorem q4_3 : ∃ o, ops4[3]? = some o ∧ o.guard = none ∧ o.dst = some 41 ∧ o.op = .call { callee := .builtin .append, args := #[.tmp 38, .tmp 40], argTypes := #[26, 26] } ∧ depsOf o = [0, 2] := ⟨_, rfl, rfl, rfl, rfl, rfl⟩
theorem q4_4 : ∃ o, ops4[4]? = some o ∧ o.guard = none ∧ o.dst = some 42 ∧ o.op = .fieldAddr 29 (.tmp 4) 0 ∧ depsOf o = [] := ⟨_, rfl, rfl, rfl, rfl, rfl⟩
theorem q4_5 : ∃ o, ops4[5]? = some o ∧ o.guard = none ∧ o.dst = some 43 ∧ o.op = .load 26 (.tmp 42) ∧ depsOf o = [4] := ⟨_, rfl, rfl, rfl, rfl, rfl⟩
theorem q4_6 : ∃ o, ops4[6]? = some o ∧ o.guard = none ∧ o.dst = some 44 ∧ o.op = .call { callee := .builtin .append, args := #[.tmp 41, .tmp 43], argTypes := #[26, 26] } ∧ depsOf o = [3, 5, 3] := ⟨_, rfl, rfl, rfl, rfl, rfl⟩
theorem q4_7 : ∃ o, ops4[7]? = some o ∧ o.guard = none ∧ o.dst = some 45 ∧ o.op = .buildSlice 27 0 #[] ∧ depsOf o = [] := ⟨_, rfl, rfl, rfl, rfl, rfl⟩
theorem q4_8 : ∃ o, ops4[8]? = some o ∧ o.guard = none ∧ o.dst = some 46 ∧ o.op = .fieldAddr 29 (.tmp 3) 1 ∧ depsOf o = [] := ⟨_, rfl, rfl, rfl, rfl, rfl⟩
theorem q4_9 : ∃ o, ops4[9]? = some o ∧ o.guard = none ∧ o.dst = some 47 ∧ o.op = .load 27 (.tmp 46) ∧ depsOf o = [8] := ⟨_, rfl, rfl, rfl, rfl, rfl⟩
theorem q4_10 : ∃ o, ops4[10]? = some o ∧ o.guard = none ∧ o.dst = some 48 ∧ o.op = .call { callee := .builtin .append, args := #[.tmp 45, .tmp 47], argTypes := #[27, 27] } ∧ depsOf o = [7, 9, 6] := ⟨_, rfl, rfl, rfl, rfl, rfl⟩
theorem q4_11 : ∃ o, ops4[11]? = some o ∧ o.guard = none ∧ o.dst = some 49 ∧ o.op = .fieldAddr 29 (.tmp 4) 1 ∧ depsOf o = [] := ⟨_, rfl, rfl, rfl, rfl, rfl⟩
theorem q4_12 : ∃ o, ops4[12]? = some o ∧ o.guard = none ∧ o.dst = some 50 ∧ o.op = .load 27 (.tmp 49) ∧ depsOf o = [11] := ⟨_, rfl, rfl, rfl, rfl, rfl⟩
theorem q4_13 : ∃ o, ops4[13]? = some o ∧ o.guard = none ∧ o.dst = some 51 ∧ o.op = .call { callee := .builtin .append, args := #[.tmp 48, .tmp 50], argTypes := #[27, 27] } ∧ depsOf o = [10, 12, 10] := ⟨_, rfl, rfl, rfl, rfl, rfl⟩
theorem q4_14 : ∃ o, ops4[14]? = some o ∧ o.guard = none ∧ o.dst = some 52 ∧ o.op = .build 29 #[(0, .tmp 44), (1, .tmp 51)] ∧ depsOf o = [6, 13] := ⟨_, rfl, rfl, rfl, rfl, rfl⟩
theorem q4_15 : ∃ o, ops4[15]? = some o ∧ o.guard = none ∧ o.dst = some 53 ∧ o.op = .call { callee := .value (.func 11), args := #[.tmp 52], argTypes := #[29] } ∧ depsOf o = [14, 13] := ⟨_, rfl, rfl, rfl, rfl, rfl⟩
theorem q4_16 : ∃ o, ops4[16]? = some o ∧ o.guard = none ∧ o.dst = some 9 ∧ o.op = .alloc 29 ∧ depsOf o = [] := ⟨_, rfl, rfl, rfl, rfl, rfl⟩
theorem q4_17 : ∃ o, ops4[17]? = some o ∧ o.guard = none ∧ o.dst = none ∧ o.op = .store 29 (.tmp 9) (.tmp 53) ∧ depsOf o = [16, 15, 15, 0, 1, 2, 3, 4, 5, 6, 7, 8, 9, 10, 11, 12, 13, 14, 15, 16] := ⟨_, rfl, rfl, rfl, rfl, rfl⟩
theorem size4 : ops4.size = 18 := rfl
theorem back4 : edgesBack ops4 = true := by kernel_rfl
/-- The slots that the region writes. -/
def D4 : List Nat := [9, 38, 39, 40, 41, 42, 43, 44, 45, 46, 47, 48, 49, 50, 51, 52, 53]
def T4 (ba bb : Nat) (A1 A2 A3 A4 : Value) : List (Nat × Nat × Value) := [(1, 39, .pointer (some ⟨ba, 0, none⟩)), (2, 40, A1), (4, 42, .pointer (some ⟨bb, 0, none⟩)), (5, 43, A3), (8, 46, .pointer (some ⟨ba, 1, none⟩)), (9, 47, A2), (11, 49, .pointer (some ⟨bb, 1, none⟩)), (12, 50, A4)]
/-- The rows as they grow: where they stand, what they hold. -/
def cur1 (L : Nat → Bool) : Nat := if L 6 = true then 44 else if L 3 = true then 41 else 38
def xs1 (L : Nat → Bool) (ia ib : List Int) : List Int := if L 6 = true then ia ++ ib else if L 3 = true then ia else []
def cur2 (L : Nat → Bool) : Nat := if L 13 = true then 51 else if L 10 = true then 48 else 45
def xs2 (L : Nat → Bool) (la lb : List ByteArray) : List ByteArray := if L 13 = true then la ++ lb else if L 10 = true then la else []
theorem cur1_upd {L : Nat → Bool} {i : Nat} (h1 : 6 ≠ i) (h2 : 3 ≠ i) : cur1 (upd L i) = cur1 L := by unfold cur1; rw [upd_ne h1, upd_ne h2]
theorem xs1_upd {L : Nat → Bool} {i : Nat} {ia ib : List Int} (h1 : 6 ≠ i) (h2 : 3 ≠ i) : xs1 (upd L i) ia ib = xs1 L ia ib := by unfold xs1; rw [upd_ne h1, upd_ne h2]
theorem cur2_upd {L : Nat → Bool} {i : Nat} (h1 : 13 ≠ i) (h2 : 10 ≠ i) : cur2 (upd L i) = cur2 L := by unfold cur2; rw [upd_ne h1, upd_ne h2]
theorem xs2_upd {L : Nat → Bool} {i : Nat} {la lb : List ByteArray} (h1 : 13 ≠ i) (h2 : 10 ≠ i) : xs2 (upd L i) la lb = xs2 L la lb := by unfold xs2; rw [upd_ne h1, upd_ne h2]
theorem cur1_in (L : Nat → Bool) : cur1 L = 38 ∨ cur1 L = 41 ∨ cur1 L = 44 := by unfold cur1; repeat' split <;> simp
theorem cur2_in (L : Nat → Bool) : cur2 L = 45 ∨ cur2 L = 48 ∨ cur2 L = 51 := by unfold cur2; repeat' split <;> simp
def emptyBox : Obj := .cells #[.slice none 0 0, .slice none 0 0] 29

structure J4 (T : List (Nat × Nat × Value)) (a0 : Act) (W0 : World) (ia ib : List Int) (la lb : List ByteArray) (L : Nat → Bool) (a : Act) (w : World) : Prop where
  fr : Frm a0 D4 a
  bl : Below W0.heap.size W0 w
  tb : Tab T L a
  o1 : L 0 = true → L 15 = false → w.ownsRow W0.heap.size 3 1 (a.eval (.tmp (cur1 L))) (xs1 L ia ib).length ((xs1 L ia ib).map (Value.int .i64))
  o2 : L 7 = true → L 15 = false → w.ownsRow W0.heap.size 47 1 (a.eval (.tmp (cur2 L))) (xs2 L la lb).length ((xs2 L la lb).map Value.string)
  d12 : L 0 = true → L 7 = true → L 15 = false → ∀ k, (a.eval (.tmp (cur1 L))).ownBlock = some k → (a.eval (.tmp (cur2 L))).ownBlock ≠ some k
  b14 : L 14 = true → ∃ A n c B m d, a.eval (.tmp 44) = .slice A n c ∧ a.eval (.tmp 51) = .slice B m d ∧ a.eval (.tmp 52) = .agg #[.slice A n c, .slice B m d]
  o9 : L 16 = true → L 17 = false → ∃ g, a.eval (.tmp 9) = .pointer (some ⟨g, 0, none⟩) ∧ W0.heap.size ≤ g ∧ w.heap[g]? = some emptyBox ∧ (L 0 = true → L 15 = false → (a.eval (.tmp (cur1 L))).ownBlock ≠ some g) ∧ (L 7 = true → L 15 = false → (a.eval (.tmp (cur2 L))).ownBlock ≠ some g) ∧ (∀ p q, L 15 = true → a.eval (.tmp 53) = .agg #[p, q] → p.ownBlock ≠ some g ∧ q.ownBlock ≠ some g)
  r15 : L 15 = true → L 17 = false → ∃ p q, a.eval (.tmp 53) = .agg #[p, q] ∧ w.ownsRow W0.heap.size 3 1 p (canI (ia ++ ib)).length ((canI (ia ++ ib)).map (Value.int .i64)) ∧ w.ownsRow W0.heap.size 47 1 q (canN (ia ++ ib) (la ++ lb)).length ((canN (ia ++ ib) (la ++ lb)).map encN)
  fin : L 17 = true → ∃ g A n c B m d, a.eval (.tmp 9) = .pointer (some ⟨g, 0, none⟩) ∧ BxV w g (.slice A n c) (.slice B m d) (canI (ia ++ ib)) (canS (ia ++ ib) (la ++ lb))

section
variable {T : List (Nat × Nat × Value)} {a0 : Act} {W0 : World} {ia ib : List Int} {la lb : List ByteArray} {L : Nat → Bool} {a : Act} {w : World}
/-- A load, an address. -/
theorem J4.load (h : J4 T a0 W0 ia ib la lb L a w) {i d : Nat} {v : Value} (hi : i ∉ [0, 3, 6, 7, 10, 13, 14, 15, 16, 17]) (hd : d ∉ [38, 41, 44, 45, 48, 51, 52, 53, 9]) (hD : d ∈ D4) (ht : Tab T (upd L i) (a.put (some d) v)) : J4 T a0 W0 ia ib la lb (upd L i) (a.put (some d) v) w := by
  have n : ∀ k, k ∈ [0, 3, 6, 7, 10, 13, 14, 15, 16, 17] → upd L i k = L k := fun k hk => upd_ne fun e => hi (e ▸ hk)
  have s : ∀ k, k ∈ [38, 41, 44, 45, 48, 51, 52, 53, 9] → (a.put (some d) v).eval (.tmp k) = a.eval (.tmp k) := fun k hk => ev_ne fun e => hd (e ▸ hk)
  have ne : ∀ k, k ∈ [0, 3, 6, 7, 10, 13, 14, 15, 16, 17] → k ≠ i := fun k hk e => hi (e ▸ hk)
  have c1 : cur1 (upd L i) = cur1 L := cur1_upd (ne 6 (by decide)) (ne 3 (by decide))
  have x1 : xs1 (upd L i) ia ib = xs1 L ia ib := xs1_upd (ne 6 (by decide)) (ne 3 (by decide))
  have c2 : cur2 (upd L i) = cur2 L := cur2_upd (ne 13 (by decide)) (ne 10 (by decide))
  have x2 : xs2 (upd L i) la lb = xs2 L la lb := xs2_upd (ne 13 (by decide)) (ne 10 (by decide))
  have e1 : (a.put (some d) v).eval (.tmp (cur1 L)) = a.eval (.tmp (cur1 L)) := by rcases cur1_in L with e | e | e <;> rw [e] <;> exact s _ (by decide)
  have e2 : (a.put (some d) v).eval (.tmp (cur2 L)) = a.eval (.tmp (cur2 L)) := by rcases cur2_in L with e | e | e <;> rw [e] <;> exact s _ (by decide)
  have n0 := n 0 (by decide)
  have n7 := n 7 (by decide)
  have n14 := n 14 (by decide)
  have n15 := n 15 (by decide)
  have n16 := n 16 (by decide)
  have n17 := n 17 (by decide)
  have s44 := s 44 (by decide)
  have s51 := s 51 (by decide)
  have s52 := s 52 (by decide)
  have s53 := s 53 (by decide)
  have s9 := s 9 (by decide)
  refine ⟨h.fr.put hD v, h.bl, ht, ?_, ?_, ?_, ?_, ?_, ?_, ?_⟩ <;> simp only [n0, n7, n14, n15, n16, n17, c1, c2, x1, x2, e1, e2, s44, s51, s52, s53, s9]
  · exact h.o1
  · exact h.o2
  · exact h.d12
  · exact h.b14
  · exact h.o9
  · exact h.r15
  · exact h.fin

/-- What waits for what. -/
structure Clo (L : Nat → Bool) : Prop where
  c3 : L 3 = true → L 0 = true
  c6 : L 6 = true → L 3 = true
  c10a : L 10 = true → L 7 = true
  c10b : L 10 = true → L 6 = true
  c13 : L 13 = true → L 10 = true
  c14 : L 14 = true → L 13 = true
  c15 : L 15 = true → L 14 = true
  c17 : L 17 = true → ∀ k, k < 17 → L k = true
theorem clo_of (hcl : ∀ i o, ops4[i]? = some o → L i = true → ∀ j ∈ depsOf o, L j = true) : Clo L := by
  have g : ∀ {i : Nat} {P : Oper → Prop} {l : List Nat}, (∃ o, ops4[i]? = some o ∧ P o ∧ depsOf o = l) → L i = true → ∀ j ∈ l, L j = true := by
    rintro i P l ⟨o, ho, -, rfl⟩ h
    exact hcl i o ho h
  have r : ∀ {i : Nat} {d : Option Tmp} {op : Op} {l : List Nat}, (∃ o, ops4[i]? = some o ∧ o.guard = none ∧ o.dst = d ∧ o.op = op ∧ depsOf o = l) → L i = true → ∀ j ∈ l, L j = true := by
    rintro i d op l ⟨o, ho, -, -, -, rfl⟩ h
    exact hcl i o ho h
  clear g
  exact ⟨fun h => r q4_3 h 0 (by decide), fun h => r q4_6 h 3 (by decide), fun h => r q4_10 h 7 (by decide), fun h => r q4_10 h 6 (by decide), fun h => r q4_13 h 10 (by decide), fun h => r q4_14 h 13 (by decide), fun h => r q4_15 h 14 (by decide), fun h k hk => r q4_17 h k (by
    have : ∀ k, k < 17 → k ∈ [16,15,15,0,1,2,3,4,5,6,7,8,9,10,11,12,13,14,15,16] := by decide
    exact this k hk)⟩
theorem nf {x y : Bool} (h : x = true → y = true) (hy : y = false) : x = false := by cases x with
  | false => rfl
  | true => rw [h rfl] at hy; cases hy
theorem lt_of_heap {w : World} {g : Nat} {o : Obj} (h : w.heap[g]? = some o) : g < w.heap.size := (Array.getElem?_eq_some_iff.1 h).1

theorem J4.s0 (h : J4 T a0 W0 ia ib la lb L a w) (C : Clo L) (hT : ∀ e ∈ T, e.1 ≠ 0 ∧ e.2.1 ≠ 38) (hsz : a0.tmps.size = 199) (h0 : L 0 = false) :
    J4 T a0 W0 ia ib la lb (upd L 0) (a.put (some 38) (.slice (some ⟨w.heap.size, 0, none⟩) 0 0)) (w.alloc (.cells #[] 3)) := by
  have h3 := nf C.c3 h0
  have h6 := nf C.c6 h3
  have h10 := nf C.c10b h6
  have h13 := nf C.c13 h10
  have h14 := nf C.c14 h13
  have h15 := nf C.c15 h14
  have h17 := nf (fun h => C.c17 h 0 (by decide)) h0
  have hd : 38 < a.tmps.size := by rw [h.fr.sz, hsz]; decide
  have c1 : cur1 (upd L 0) = 38 := by simp [cur1, upd, h6, h3]
  have x1 : xs1 (upd L 0) ia ib = [] := by simp [xs1, upd, h6, h3]
  have c2 : cur2 (upd L 0) = cur2 L := cur2_upd (by decide) (by decide)
  have x2 : xs2 (upd L 0) la lb = xs2 L la lb := xs2_upd (by decide) (by decide)
  have E : ∀ k, 38 ≠ k → (a.put (some 38) (.slice (some ⟨w.heap.size, 0, none⟩) 0 0)).eval (.tmp k) = a.eval (.tmp k) := fun k hk => ev_ne hk
  have e2 : (a.put (some 38) (.slice (some ⟨w.heap.size, 0, none⟩) 0 0)).eval (.tmp (cur2 L)) = a.eval (.tmp (cur2 L)) := by rcases cur2_in L with e | e | e <;> rw [e] <;> exact E _ (by decide)
  refine ⟨h.fr.put (by decide) _, h.bl.alloc h.bl.size _, h.tb.put hd fun e he => ⟨fun e' => absurd e' (hT e he).1, fun _ => (hT e he).2⟩, ?_, ?_, ?_, ?_, ?_, ?_, ?_⟩
  · intro _ _
    rw [c1, x1, ev_same hd]
    exact World.ownsRow_made w #[] 0 h.bl.size (by decide) rfl
  · intro h7 _
    rw [c2, x2, e2]
    exact (h.o2 h7 h15).alloc _
  · intro _ h7 _ k hk
    rw [c1, ev_same hd] at hk
    rw [c2, e2]
    intro hk2
    have := (h.o2 h7 h15).lt k hk2
    simp [Value.ownBlock] at hk
    omega
  · intro h; exact absurd (show L 14 = true from h) (by rw [h14]; decide)
  · intro h16 _
    obtain ⟨g, e, hg, hh, n1, n2, n3⟩ := h.o9 h16 h17
    refine ⟨g, (E 9 (by decide)).trans e, hg, al_heap hh _, ?_, ?_, ?_⟩
    · intro _ _
      rw [c1, ev_same hd]
      have := lt_of_heap hh
      simp [Value.ownBlock]
      omega
    · intro h7 _
      rw [c2, e2]
      exact n2 h7 h15
    · intro p q h; exact absurd (show L 15 = true from h) (by rw [h15]; decide)
  · intro h; exact absurd (show L 15 = true from h) (by rw [h15]; decide)
  · intro h; exact absurd (show L 17 = true from h) (by rw [h17]; decide)

theorem J4.s7 (h : J4 T a0 W0 ia ib la lb L a w) (C : Clo L) (hT : ∀ e ∈ T, e.1 ≠ 7 ∧ e.2.1 ≠ 45) (hsz : a0.tmps.size = 199) (h7 : L 7 = false) :
    J4 T a0 W0 ia ib la lb (upd L 7) (a.put (some 45) (.slice (some ⟨w.heap.size, 0, none⟩) 0 0)) (w.alloc (.cells #[] 47)) := by
  have h10 := nf C.c10a h7
  have h13 := nf C.c13 h10
  have h14 := nf C.c14 h13
  have h15 := nf C.c15 h14
  have h17 := nf (fun h => C.c17 h 7 (by decide)) h7
  have hd : 45 < a.tmps.size := by rw [h.fr.sz, hsz]; decide
  have c2 : cur2 (upd L 7) = 45 := by simp [cur2, upd, h13, h10]
  have x2 : xs2 (upd L 7) la lb = [] := by simp [xs2, upd, h13, h10]
  have c1 : cur1 (upd L 7) = cur1 L := cur1_upd (by decide) (by decide)
  have x1 : xs1 (upd L 7) ia ib = xs1 L ia ib := xs1_upd (by decide) (by decide)
  have E : ∀ k, 45 ≠ k → (a.put (some 45) (.slice (some ⟨w.heap.size, 0, none⟩) 0 0)).eval (.tmp k) = a.eval (.tmp k) := fun k hk => ev_ne hk
  have e1 : (a.put (some 45) (.slice (some ⟨w.heap.size, 0, none⟩) 0 0)).eval (.tmp (cur1 L)) = a.eval (.tmp (cur1 L)) := by rcases cur1_in L with e | e | e <;> rw [e] <;> exact E _ (by decide)
  refine ⟨h.fr.put (by decide) _, h.bl.alloc h.bl.size _, h.tb.put hd fun e he => ⟨fun e' => absurd e' (hT e he).1, fun _ => (hT e he).2⟩, ?_, ?_, ?_, ?_, ?_, ?_, ?_⟩
  · intro h0 _
    rw [c1, x1, e1]
    exact (h.o1 h0 h15).alloc _
  · intro _ _
    rw [c2, x2, ev_same hd]
    exact World.ownsRow_made w #[] 0 h.bl.size (by decide) rfl
  · intro h0 _ _ k hk
    rw [c1, e1] at hk
    rw [c2, ev_same hd]
    have := (h.o1 h0 h15).lt k hk
    simp [Value.ownBlock]
    omega
  · intro h; exact absurd (show L 14 = true from h) (by rw [h14]; decide)
  · intro h16 _
    obtain ⟨g, e, hg, hh, n1, n2, n3⟩ := h.o9 h16 h17
    refine ⟨g, (E 9 (by decide)).trans e, hg, al_heap hh _, ?_, ?_, ?_⟩
    · intro h0 _
      rw [c1, e1]
      exact n1 h0 h15
    · intro _ _
      rw [c2, ev_same hd]
      have := lt_of_heap hh
      simp [Value.ownBlock]
      omega
    · intro p q h; exact absurd (show L 15 = true from h) (by rw [h15]; decide)
  · intro h; exact absurd (show L 15 = true from h) (by rw [h15]; decide)
  · intro h; exact absurd (show L 17 = true from h) (by rw [h17]; decide)

theorem J4.s3 (h : J4 T a0 W0 ia ib la lb L a w) (C : Clo L) (hT : ∀ e ∈ T, e.1 ≠ 3 ∧ e.2.1 ≠ 41) (hsz : a0.tmps.size = 199) (hi : L 3 = false) (hd0 : L 0 = true) (hc : cur1 L = 38) {v' : Value} {w' : World}
    (hx : cur1 (upd L 3) = 41) (own : w'.ownsRow W0.heap.size 3 1 v' (xs1 (upd L 3) ia ib).length ((xs1 (upd L 3) ia ib).map (Value.int .i64))) (hg : w.grownBy w' (a.eval (.tmp 38)).ownBlock) (hb : Below W0.heap.size w w') (hat : v'.ownBlock = (a.eval (.tmp 38)).ownBlock ∨ v'.ownBlock = some w.heap.size) :
    J4 T a0 W0 ia ib la lb (upd L 3) (a.put (some 41) v') w' := by
  have h6 := nf C.c6 hi
  have h10 := nf C.c10b h6
  have h13 := nf C.c13 h10
  have h14 := nf C.c14 h13
  have h15 := nf C.c15 h14
  have h17 := nf (fun h => C.c17 h 3 (by decide)) hi
  have hd : 41 < a.tmps.size := by rw [h.fr.sz, hsz]; decide
  have c2 : cur2 (upd L 3) = cur2 L := cur2_upd (by decide) (by decide)
  have x2 : xs2 (upd L 3) la lb = xs2 L la lb := xs2_upd (by decide) (by decide)
  have E : ∀ k, 41 ≠ k → (a.put (some 41) v').eval (.tmp k) = a.eval (.tmp k) := fun k hk => ev_ne hk
  have e2 : (a.put (some 41) v').eval (.tmp (cur2 L)) = a.eval (.tmp (cur2 L)) := by rcases cur2_in L with e | e | e <;> rw [e] <;> exact E _ (by decide)
  have hd12 : L 7 = true → ∀ k, (a.eval (.tmp 38)).ownBlock = some k → (a.eval (.tmp (cur2 L))).ownBlock ≠ some k := fun h7 => hc ▸ h.d12 hd0 h7 h15
  refine ⟨h.fr.put (by decide) _, h.bl.trans hb, h.tb.put hd fun e he => ⟨fun e' => absurd e' (hT e he).1, fun _ => (hT e he).2⟩, ?_, ?_, ?_, ?_, ?_, ?_, ?_⟩
  · intro _ _
    rw [hx, ev_same hd]
    exact own
  · intro h7 _
    rw [c2, x2, e2]
    exact own_grown (h.o2 h7 h15) hg fun k hk e => hd12 h7 k e hk
  · intro _ h7 _ k hk
    rw [hx, ev_same hd] at hk
    rw [c2, e2]
    rcases hat with hat | hat
    · exact hd12 h7 k (hat ▸ hk)
    · intro hk2
      have := (h.o2 h7 h15).lt k hk2
      rw [hat] at hk
      cases hk
      omega
  · intro h; exact absurd (show L 14 = true from h) (by rw [h14]; decide)
  · intro h16 _
    obtain ⟨g, e, hg9, hh, n1, n2, n3⟩ := h.o9 h16 h17
    have hlt := lt_of_heap hh
    have n1' := n1 hd0 h15
    rw [hc] at n1'
    refine ⟨g, (E 9 (by decide)).trans e, hg9, (hg.block g hlt fun e => n1' e.symm).trans hh, ?_, ?_, ?_⟩
    · intro _ _
      rw [hx, ev_same hd]
      rcases hat with hat | hat
      · rw [hat]; exact n1'
      · rw [hat]; simp; omega
    · intro h7 _
      rw [c2, e2]
      exact n2 h7 h15
    · intro p q h; exact absurd (show L 15 = true from h) (by rw [h15]; decide)
  · intro h; exact absurd (show L 15 = true from h) (by rw [h15]; decide)
  · intro h; exact absurd (show L 17 = true from h) (by rw [h17]; decide)

theorem J4.s6 (h : J4 T a0 W0 ia ib la lb L a w) (C : Clo L) (hT : ∀ e ∈ T, e.1 ≠ 6 ∧ e.2.1 ≠ 44) (hsz : a0.tmps.size = 199) (hi : L 6 = false) (hd0 : L 0 = true) (hc : cur1 L = 41) {v' : Value} {w' : World}
    (hx : cur1 (upd L 6) = 44) (own : w'.ownsRow W0.heap.size 3 1 v' (xs1 (upd L 6) ia ib).length ((xs1 (upd L 6) ia ib).map (Value.int .i64))) (hg : w.grownBy w' (a.eval (.tmp 41)).ownBlock) (hb : Below W0.heap.size w w') (hat : v'.ownBlock = (a.eval (.tmp 41)).ownBlock ∨ v'.ownBlock = some w.heap.size) :
    J4 T a0 W0 ia ib la lb (upd L 6) (a.put (some 44) v') w' := by
  have h10 := nf C.c10b hi
  have h13 := nf C.c13 h10
  have h14 := nf C.c14 h13
  have h15 := nf C.c15 h14
  have h17 := nf (fun h => C.c17 h 6 (by decide)) hi
  have hd : 44 < a.tmps.size := by rw [h.fr.sz, hsz]; decide
  have c2 : cur2 (upd L 6) = cur2 L := cur2_upd (by decide) (by decide)
  have x2 : xs2 (upd L 6) la lb = xs2 L la lb := xs2_upd (by decide) (by decide)
  have E : ∀ k, 44 ≠ k → (a.put (some 44) v').eval (.tmp k) = a.eval (.tmp k) := fun k hk => ev_ne hk
  have e2 : (a.put (some 44) v').eval (.tmp (cur2 L)) = a.eval (.tmp (cur2 L)) := by rcases cur2_in L with e | e | e <;> rw [e] <;> exact E _ (by decide)
  have hd12 : L 7 = true → ∀ k, (a.eval (.tmp 41)).ownBlock = some k → (a.eval (.tmp (cur2 L))).ownBlock ≠ some k := fun h7 => hc ▸ h.d12 hd0 h7 h15
  refine ⟨h.fr.put (by decide) _, h.bl.trans hb, h.tb.put hd fun e he => ⟨fun e' => absurd e' (hT e he).1, fun _ => (hT e he).2⟩, ?_, ?_, ?_, ?_, ?_, ?_, ?_⟩
  · intro _ _
    rw [hx, ev_same hd]
    exact own
  · intro h7 _
    rw [c2, x2, e2]
    exact own_grown (h.o2 h7 h15) hg fun k hk e => hd12 h7 k e hk
  · intro _ h7 _ k hk
    rw [hx, ev_same hd] at hk
    rw [c2, e2]
    rcases hat with hat | hat
    · exact hd12 h7 k (hat ▸ hk)
    · intro hk2
      have := (h.o2 h7 h15).lt k hk2
      rw [hat] at hk
      cases hk
      omega
  · intro h; exact absurd (show L 14 = true from h) (by rw [h14]; decide)
  · intro h16 _
    obtain ⟨g, e, hg9, hh, n1, n2, n3⟩ := h.o9 h16 h17
    have hlt := lt_of_heap hh
    have n1' := n1 hd0 h15
    rw [hc] at n1'
    refine ⟨g, (E 9 (by decide)).trans e, hg9, (hg.block g hlt fun e => n1' e.symm).trans hh, ?_, ?_, ?_⟩
    · intro _ _
      rw [hx, ev_same hd]
      rcases hat with hat | hat
      · rw [hat]; exact n1'
      · rw [hat]; simp; omega
    · intro h7 _
      rw [c2, e2]
      exact n2 h7 h15
    · intro p q h; exact absurd (show L 15 = true from h) (by rw [h15]; decide)
  · intro h; exact absurd (show L 15 = true from h) (by rw [h15]; decide)
  · intro h; exact absurd (show L 17 = true from h) (by rw [h17]; decide)

theorem J4.s10 (h : J4 T a0 W0 ia ib la lb L a w) (C : Clo L) (hT : ∀ e ∈ T, e.1 ≠ 10 ∧ e.2.1 ≠ 48) (hsz : a0.tmps.size = 199) (hi : L 10 = false) (h7 : L 7 = true) (hc : cur2 L = 45) {v' : Value} {w' : World}
    (hx : cur2 (upd L 10) = 48) (own : w'.ownsRow W0.heap.size 47 1 v' (xs2 (upd L 10) la lb).length ((xs2 (upd L 10) la lb).map Value.string)) (hg : w.grownBy w' (a.eval (.tmp 45)).ownBlock) (hb : Below W0.heap.size w w') (hat : v'.ownBlock = (a.eval (.tmp 45)).ownBlock ∨ v'.ownBlock = some w.heap.size) :
    J4 T a0 W0 ia ib la lb (upd L 10) (a.put (some 48) v') w' := by
  have h13 := nf C.c13 hi
  have h14 := nf C.c14 h13
  have h15 := nf C.c15 h14
  have h17 := nf (fun h => C.c17 h 10 (by decide)) hi
  have hd : 48 < a.tmps.size := by rw [h.fr.sz, hsz]; decide
  have c1 : cur1 (upd L 10) = cur1 L := cur1_upd (by decide) (by decide)
  have x1 : xs1 (upd L 10) ia ib = xs1 L ia ib := xs1_upd (by decide) (by decide)
  have E : ∀ k, 48 ≠ k → (a.put (some 48) v').eval (.tmp k) = a.eval (.tmp k) := fun k hk => ev_ne hk
  have e1 : (a.put (some 48) v').eval (.tmp (cur1 L)) = a.eval (.tmp (cur1 L)) := by rcases cur1_in L with e | e | e <;> rw [e] <;> exact E _ (by decide)
  have hd12 : L 0 = true → ∀ k, (a.eval (.tmp (cur1 L))).ownBlock = some k → (a.eval (.tmp 45)).ownBlock ≠ some k := fun h0 => hc ▸ h.d12 h0 h7 h15
  refine ⟨h.fr.put (by decide) _, h.bl.trans hb, h.tb.put hd fun e he => ⟨fun e' => absurd e' (hT e he).1, fun _ => (hT e he).2⟩, ?_, ?_, ?_, ?_, ?_, ?_, ?_⟩
  · intro h0 _
    rw [c1, x1, e1]
    exact own_grown (h.o1 h0 h15) hg fun k hk => hd12 h0 k hk
  · intro _ _
    rw [hx, ev_same hd]
    exact own
  · intro h0 _ _ k hk
    rw [c1, e1] at hk
    rw [hx, ev_same hd]
    rcases hat with hat | hat
    · rw [hat]; exact hd12 h0 k hk
    · rw [hat]
      have := (h.o1 h0 h15).lt k hk
      simp
      omega
  · intro h; exact absurd (show L 14 = true from h) (by rw [h14]; decide)
  · intro h16 _
    obtain ⟨g, e, hg9, hh, n1, n2, n3⟩ := h.o9 h16 h17
    have hlt := lt_of_heap hh
    have n2' := n2 h7 h15
    rw [hc] at n2'
    refine ⟨g, (E 9 (by decide)).trans e, hg9, (hg.block g hlt fun e => n2' e.symm).trans hh, ?_, ?_, ?_⟩
    · intro h0 _
      rw [c1, e1]
      exact n1 h0 h15
    · intro _ _
      rw [hx, ev_same hd]
      rcases hat with hat | hat
      · rw [hat]; exact n2'
      · rw [hat]; simp; omega
    · intro p q h; exact absurd (show L 15 = true from h) (by rw [h15]; decide)
  · intro h; exact absurd (show L 15 = true from h) (by rw [h15]; decide)
  · intro h; exact absurd (show L 17 = true from h) (by rw [h17]; decide)

theorem J4.s13 (h : J4 T a0 W0 ia ib la lb L a w) (C : Clo L) (hT : ∀ e ∈ T, e.1 ≠ 13 ∧ e.2.1 ≠ 51) (hsz : a0.tmps.size = 199) (hi : L 13 = false) (h7 : L 7 = true) (hc : cur2 L = 48) {v' : Value} {w' : World}
    (hx : cur2 (upd L 13) = 51) (own : w'.ownsRow W0.heap.size 47 1 v' (xs2 (upd L 13) la lb).length ((xs2 (upd L 13) la lb).map Value.string)) (hg : w.grownBy w' (a.eval (.tmp 48)).ownBlock) (hb : Below W0.heap.size w w') (hat : v'.ownBlock = (a.eval (.tmp 48)).ownBlock ∨ v'.ownBlock = some w.heap.size) :
    J4 T a0 W0 ia ib la lb (upd L 13) (a.put (some 51) v') w' := by
  have h13 := hi
  have h14 := nf C.c14 h13
  have h15 := nf C.c15 h14
  have h17 := nf (fun h => C.c17 h 13 (by decide)) hi
  have hd : 51 < a.tmps.size := by rw [h.fr.sz, hsz]; decide
  have c1 : cur1 (upd L 13) = cur1 L := cur1_upd (by decide) (by decide)
  have x1 : xs1 (upd L 13) ia ib = xs1 L ia ib := xs1_upd (by decide) (by decide)
  have E : ∀ k, 51 ≠ k → (a.put (some 51) v').eval (.tmp k) = a.eval (.tmp k) := fun k hk => ev_ne hk
  have e1 : (a.put (some 51) v').eval (.tmp (cur1 L)) = a.eval (.tmp (cur1 L)) := by rcases cur1_in L with e | e | e <;> rw [e] <;> exact E _ (by decide)
  have hd12 : L 0 = true → ∀ k, (a.eval (.tmp (cur1 L))).ownBlock = some k → (a.eval (.tmp 48)).ownBlock ≠ some k := fun h0 => hc ▸ h.d12 h0 h7 h15
  refine ⟨h.fr.put (by decide) _, h.bl.trans hb, h.tb.put hd fun e he => ⟨fun e' => absurd e' (hT e he).1, fun _ => (hT e he).2⟩, ?_, ?_, ?_, ?_, ?_, ?_, ?_⟩
  · intro h0 _
    rw [c1, x1, e1]
    exact own_grown (h.o1 h0 h15) hg fun k hk => hd12 h0 k hk
  · intro _ _
    rw [hx, ev_same hd]
    exact own
  · intro h0 _ _ k hk
    rw [c1, e1] at hk
    rw [hx, ev_same hd]
    rcases hat with hat | hat
    · rw [hat]; exact hd12 h0 k hk
    · rw [hat]
      have := (h.o1 h0 h15).lt k hk
      simp
      omega
  · intro h; exact absurd (show L 14 = true from h) (by rw [h14]; decide)
  · intro h16 _
    obtain ⟨g, e, hg9, hh, n1, n2, n3⟩ := h.o9 h16 h17
    have hlt := lt_of_heap hh
    have n2' := n2 h7 h15
    rw [hc] at n2'
    refine ⟨g, (E 9 (by decide)).trans e, hg9, (hg.block g hlt fun e => n2' e.symm).trans hh, ?_, ?_, ?_⟩
    · intro h0 _
      rw [c1, e1]
      exact n1 h0 h15
    · intro _ _
      rw [hx, ev_same hd]
      rcases hat with hat | hat
      · rw [hat]; exact n2'
      · rw [hat]; simp; omega
    · intro p q h; exact absurd (show L 15 = true from h) (by rw [h15]; decide)
  · intro h; exact absurd (show L 15 = true from h) (by rw [h15]; decide)
  · intro h; exact absurd (show L 17 = true from h) (by rw [h17]; decide)

theorem J4.s14 (h : J4 T a0 W0 ia ib la lb L a w) (C : Clo L) (hT : ∀ e ∈ T, e.1 ≠ 14 ∧ e.2.1 ≠ 52) (hsz : a0.tmps.size = 199) (hi : L 14 = false) {A B : Option Addr} {n c m d : Nat} (h44 : a.eval (.tmp 44) = .slice A n c) (h51 : a.eval (.tmp 51) = .slice B m d) :
    J4 T a0 W0 ia ib la lb (upd L 14) (a.put (some 52) (.agg #[.slice A n c, .slice B m d])) w := by
  have h15 := nf C.c15 hi
  have h17 := nf (fun h => C.c17 h 14 (by decide)) hi
  have hd : 52 < a.tmps.size := by rw [h.fr.sz, hsz]; decide
  have c1 : cur1 (upd L 14) = cur1 L := cur1_upd (by decide) (by decide)
  have x1 : xs1 (upd L 14) ia ib = xs1 L ia ib := xs1_upd (by decide) (by decide)
  have c2 : cur2 (upd L 14) = cur2 L := cur2_upd (by decide) (by decide)
  have x2 : xs2 (upd L 14) la lb = xs2 L la lb := xs2_upd (by decide) (by decide)
  have E : ∀ k, 52 ≠ k → (a.put (some 52) (.agg #[.slice A n c, .slice B m d])).eval (.tmp k) = a.eval (.tmp k) := fun k hk => ev_ne hk
  have e1 : (a.put (some 52) (.agg #[.slice A n c, .slice B m d])).eval (.tmp (cur1 L)) = a.eval (.tmp (cur1 L)) := by rcases cur1_in L with e | e | e <;> rw [e] <;> exact E _ (by decide)
  have e2 : (a.put (some 52) (.agg #[.slice A n c, .slice B m d])).eval (.tmp (cur2 L)) = a.eval (.tmp (cur2 L)) := by rcases cur2_in L with e | e | e <;> rw [e] <;> exact E _ (by decide)
  refine ⟨h.fr.put (by decide) _, h.bl, h.tb.put hd fun e he => ⟨fun e' => absurd e' (hT e he).1, fun _ => (hT e he).2⟩, ?_, ?_, ?_, ?_, ?_, ?_, ?_⟩
  · intro h0 _; rw [c1, x1, e1]; exact h.o1 h0 h15
  · intro h7 _; rw [c2, x2, e2]; exact h.o2 h7 h15
  · intro h0 h7 _; rw [c1, c2, e1, e2]; exact h.d12 h0 h7 h15
  · intro _; exact ⟨A, n, c, B, m, d, (E 44 (by decide)).trans h44, (E 51 (by decide)).trans h51, ev_same hd⟩
  · intro h16 _
    obtain ⟨g, e, hg9, hh, n1, n2, n3⟩ := h.o9 h16 h17
    refine ⟨g, (E 9 (by decide)).trans e, hg9, hh, ?_, ?_, ?_⟩
    · intro h0 _; rw [c1, e1]; exact n1 h0 h15
    · intro h7 _; rw [c2, e2]; exact n2 h7 h15
    · intro p q h; exact absurd (show L 15 = true from h) (by rw [h15]; decide)
  · intro h; exact absurd (show L 15 = true from h) (by rw [h15]; decide)
  · intro h; exact absurd (show L 17 = true from h) (by rw [h17]; decide)

theorem own_base {w : World} {B B' n : Nat} {e : TypeId} {v : Value} {xs : List Value} (h : w.ownsRow B e 1 v n xs) (hB : B' ≤ B) : w.ownsRow B' e 1 v n xs := by
  refine ⟨h.1, ?_⟩
  rcases h.2 with h1 | ⟨g, cap, cur, e1, hb, r⟩
  · exact .inl h1
  · exact .inr ⟨g, cap, cur, e1, Nat.le_trans hB hb, r⟩

theorem J4.s15 (h : J4 T a0 W0 ia ib la lb L a w) (C : Clo L) (hT : ∀ e ∈ T, e.1 ≠ 15 ∧ e.2.1 ≠ 53) (hsz : a0.tmps.size = 199) (hi : L 15 = false) {p q : Value} {w' : World}
    (o1 : w'.ownsRow w.heap.size 3 1 p (canI (ia ++ ib)).length ((canI (ia ++ ib)).map (Value.int .i64))) (o2 : w'.ownsRow w.heap.size 47 1 q (canN (ia ++ ib) (la ++ lb)).length ((canN (ia ++ ib) (la ++ lb)).map encN)) (hb : Below w.heap.size w w') :
    J4 T a0 W0 ia ib la lb (upd L 15) (a.put (some 53) (.agg #[p, q])) w' := by
  have h17 := nf (fun h => C.c17 h 15 (by decide)) hi
  have hd : 53 < a.tmps.size := by rw [h.fr.sz, hsz]; decide
  have E : ∀ k, 53 ≠ k → (a.put (some 53) (.agg #[p, q])).eval (.tmp k) = a.eval (.tmp k) := fun k hk => ev_ne hk
  have no : upd L 15 15 = true := upd_self
  refine ⟨h.fr.put (by decide) _, h.bl.trans (below_of hb h.bl.size), h.tb.put hd fun e he => ⟨fun e' => absurd e' (hT e he).1, fun _ => (hT e he).2⟩, ?_, ?_, ?_, ?_, ?_, ?_, ?_⟩
  · intro _ h; rw [no] at h; cases h
  · intro _ h; rw [no] at h; cases h
  · intro _ _ h; rw [no] at h; cases h
  · intro h14
    obtain ⟨A, n, c, B, m, d, h1, h2, h3⟩ := h.b14 h14
    exact ⟨A, n, c, B, m, d, (E 44 (by decide)).trans h1, (E 51 (by decide)).trans h2, (E 52 (by decide)).trans h3⟩
  · intro h16 _
    obtain ⟨g, e, hg9, hh, -, -, -⟩ := h.o9 h16 h17
    have hlt := lt_of_heap hh
    refine ⟨g, (E 9 (by decide)).trans e, hg9, (hb.block g hlt).trans hh, ?_, ?_, ?_⟩
    · intro _ h; rw [no] at h; cases h
    · intro _ h; rw [no] at h; cases h
    · intro p' q' _ he
      rw [ev_same hd] at he
      simp at he
      obtain ⟨rfl, rfl⟩ := he
      exact ⟨fun hk => by have := (o1.lt g hk).1; omega, fun hk => by have := (o2.lt g hk).1; omega⟩
  · intro _ _
    exact ⟨p, q, ev_same hd, own_base o1 h.bl.size, own_base o2 h.bl.size⟩
  · intro h; exact absurd (show L 17 = true from h) (by rw [h17]; decide)

theorem J4.s16 (h : J4 T a0 W0 ia ib la lb L a w) (C : Clo L) (hT : ∀ e ∈ T, e.1 ≠ 16 ∧ e.2.1 ≠ 9) (hsz : a0.tmps.size = 199) (hi : L 16 = false) :
    J4 T a0 W0 ia ib la lb (upd L 16) (a.put (some 9) (.pointer (some ⟨w.heap.size, 0, none⟩))) (w.alloc (.cells #[.slice none 0 0, .slice none 0 0] 29)) := by
  have h17 := nf (fun h => C.c17 h 16 (by decide)) hi
  have hd : 9 < a.tmps.size := by rw [h.fr.sz, hsz]; decide
  have c1 : cur1 (upd L 16) = cur1 L := cur1_upd (by decide) (by decide)
  have x1 : xs1 (upd L 16) ia ib = xs1 L ia ib := xs1_upd (by decide) (by decide)
  have c2 : cur2 (upd L 16) = cur2 L := cur2_upd (by decide) (by decide)
  have x2 : xs2 (upd L 16) la lb = xs2 L la lb := xs2_upd (by decide) (by decide)
  have E : ∀ k, 9 ≠ k → (a.put (some 9) (.pointer (some ⟨w.heap.size, 0, none⟩))).eval (.tmp k) = a.eval (.tmp k) := fun k hk => ev_ne hk
  have e1 : (a.put (some 9) (.pointer (some ⟨w.heap.size, 0, none⟩))).eval (.tmp (cur1 L)) = a.eval (.tmp (cur1 L)) := by rcases cur1_in L with e | e | e <;> rw [e] <;> exact E _ (by decide)
  have e2 : (a.put (some 9) (.pointer (some ⟨w.heap.size, 0, none⟩))).eval (.tmp (cur2 L)) = a.eval (.tmp (cur2 L)) := by rcases cur2_in L with e | e | e <;> rw [e] <;> exact E _ (by decide)
  refine ⟨h.fr.put (by decide) _, h.bl.alloc h.bl.size _, h.tb.put hd fun e he => ⟨fun e' => absurd e' (hT e he).1, fun _ => (hT e he).2⟩, ?_, ?_, ?_, ?_, ?_, ?_, ?_⟩
  · intro h0 h15; rw [c1, x1, e1]; exact (h.o1 h0 h15).alloc _
  · intro h7 h15; rw [c2, x2, e2]; exact (h.o2 h7 h15).alloc _
  · intro h0 h7 h15; rw [c1, c2, e1, e2]; exact h.d12 h0 h7 h15
  · intro h14
    obtain ⟨A, n, c, B, m, d, h1, h2, h3⟩ := h.b14 h14
    exact ⟨A, n, c, B, m, d, (E 44 (by decide)).trans h1, (E 51 (by decide)).trans h2, (E 52 (by decide)).trans h3⟩
  · intro _ _
    refine ⟨w.heap.size, ev_same hd, h.bl.size, heapA _ _, ?_, ?_, ?_⟩
    · intro h0 h15; rw [c1, e1]; intro hk; have := ((h.o1 h0 h15).lt _ hk).2; omega
    · intro h7 h15; rw [c2, e2]; intro hk; have := ((h.o2 h7 h15).lt _ hk).2; omega
    · intro p q h15 he
      obtain ⟨p', q', he', o1, o2⟩ := h.r15 h15 h17
      rw [E 53 (by decide), he'] at he
      simp at he
      obtain ⟨rfl, rfl⟩ := he
      exact ⟨fun hk => by have := (o1.lt _ hk).2; omega, fun hk => by have := (o2.lt _ hk).2; omega⟩
  · intro h15 _
    obtain ⟨p', q', he', o1, o2⟩ := h.r15 h15 h17
    exact ⟨p', q', (E 53 (by decide)).trans he', o1.alloc _, o2.alloc _⟩
  · intro h; exact absurd (show L 17 = true from h) (by rw [h17]; decide)

theorem J4.s17 (h : J4 T a0 W0 ia ib la lb L a w) (C : Clo L) (hT : ∀ e ∈ T, e.1 ≠ 17) (h15 : L 15 = true) (h16 : L 16 = true) (h14 : L 14 = true) {g n c m d : Nat} {A B : Option Addr} (h9 : a.eval (.tmp 9) = .pointer (some ⟨g, 0, none⟩)) (hg : W0.heap.size ≤ g) (hh : w.heap[g]? = some emptyBox)
    (h53 : a.eval (.tmp 53) = .agg #[.slice A n c, .slice B m d]) (hp : (Value.slice A n c).ownBlock ≠ some g) (hq : (Value.slice B m d).ownBlock ≠ some g)
    (o1 : w.ownsRow W0.heap.size 3 1 (.slice A n c) (canI (ia ++ ib)).length ((canI (ia ++ ib)).map (Value.int .i64))) (o2 : w.ownsRow W0.heap.size 47 1 (.slice B m d) (canN (ia ++ ib) (la ++ lb)).length ((canN (ia ++ ib) (la ++ lb)).map encN)) :
    J4 T a0 W0 ia ib la lb (upd L 17) (a.put none undef) ((w.setCell ⟨g, 0, none⟩ (.slice A n c)).setCell ⟨g, 1, none⟩ (.slice B m d)) := by
  have no : upd L 17 17 = true := upd_self
  have hk : ∀ k, k ≠ g → ((w.setCell ⟨g, 0, none⟩ (.slice A n c)).setCell ⟨g, 1, none⟩ (.slice B m d)).heap[k]? = w.heap[k]? := fun k hk => (Below.heap_setCell _ _ _ _ hk).trans (Below.heap_setCell _ _ _ _ hk)
  refine ⟨h.fr, (h.bl.setCell hg _).setCell hg _, h.tb.none hT, ?_, ?_, ?_, ?_, ?_, ?_, ?_⟩
  · intro _ h; rw [show upd L 17 15 = true from h15] at h; cases h
  · intro _ h; rw [show upd L 17 15 = true from h15] at h; cases h
  · intro _ _ h; rw [show upd L 17 15 = true from h15] at h; cases h
  · intro _; exact h.b14 h14
  · intro _ h; rw [no] at h; cases h
  · intro _ h; rw [no] at h; cases h
  · intro _
    refine ⟨g, A, n, c, B, m, d, h9, ⟨set2 hh, Rd.of_own (e := 3) (own_keep' o1 fun k hk' _ => hk k fun e => hp (e ▸ hk')), rd_nms (own_keep' o2 fun k hk' _ => hk k fun e => hq (e ▸ hk'))⟩⟩
end
end Go.Proofs.YtcbgngkalplafaaGreatDoor
/- The drawn region of ScriptSets that makes the sum, whole. -/
namespace Go.Proofs.YtcbgngkalplafaaGreatDoor
open Go.RowKit Go.Shelf Lin

theorem mixed : Tryz.prog.follows .mixedOrders = true := by kernel_rfl

theorem sum_region {Q : Exit → Act → World → Prop} (a0 : Act) (W0 : World) (ia ib : List Int) (la lb : List ByteArray) (hsz : a0.tmps.size = 199) (ba bb : Nat)
    (h3 : a0.eval (.tmp 3) = .pointer (some ⟨ba, 0, none⟩)) (h4 : a0.eval (.tmp 4) = .pointer (some ⟨bb, 0, none⟩)) {A1 A2 A3 A4 : Value}
    (hA : BxV W0 ba A1 A2 ia la) (hB : BxV W0 bb A3 A4 ib lb) (hi : ia.length + ib.length ≤ 1000000) (hl : la.length + lb.length ≤ 1000000) (sa : ∀ x ∈ la, x.size ≤ 9223372036854775807) (sb : ∀ x ∈ lb, x.size ≤ 9223372036854775807) (hT : TabOk W0)
    (hQ : ∀ (u : Nat → Value) (w : World) (g n c m d : Nat) (A B : Option Addr), Below W0.heap.size W0 w → u 9 = .pointer (some ⟨g, 0, none⟩) → BxV w g (.slice A n c) (.slice B m d) (canI (ia ++ ib)) (canS (ia ++ ib) (la ++ lb)) → Q .normal (laid a0 u D4) w) :
    (Code.region 4 ops4 true).wp Tryz.prog Q a0 W0 := by
  obtain ⟨i3, j1, j2, j3, j4⟩ := info_parts Tryz_info3
  obtain ⟨i0, k1, k2, k3, k4⟩ := info_parts Tryz_info47
  refine region_JC (J4 (T4 ba bb A1 A2 A3 A4) a0 W0 ia ib la lb) mixed back4 ?_ ?_ ?_
  · refine ⟨Frm.refl _ _, (Below.refl _ _).drew, (fun e _ h => (nomatch h)), ?_, ?_, ?_, ?_, ?_, ?_, ?_⟩
    · intro h; cases h
    · intro h; cases h
    · intro h; cases h
    · intro h; cases h
    · intro h; cases h
    · intro h; cases h
    · intro h; cases h
  · intro L a w i o hJ hcl ho hi0 hd
    have C := clo_of hcl
    have hs : a.tmps.size = 199 := hJ.fr.sz.trans hsz
    have hlt : i < 18 := by have := (Array.getElem?_eq_some_iff.1 ho).1; rwa [size4] at this
    have bA := hA.below hJ.bl
    have bB := hB.below hJ.bl
    have e3 : a.eval (.tmp 3) = .pointer (some ⟨ba, 0, none⟩) := (hJ.fr.eval (by decide)).trans h3
    have e4 : a.eval (.tmp 4) = .pointer (some ⟨bb, 0, none⟩) := (hJ.fr.eval (by decide)).trans h4
    have hcase : i = 0 ∨ i = 1 ∨ i = 2 ∨ i = 3 ∨ i = 4 ∨ i = 5 ∨ i = 6 ∨ i = 7 ∨ i = 8 ∨ i = 9 ∨ i = 10 ∨ i = 11 ∨ i = 12 ∨ i = 13 ∨ i = 14 ∨ i = 15 ∨ i = 16 ∨ i = 17 := by omega
    rcases hcase with rfl | rfl | rfl | rfl | rfl | rfl | rfl | rfl | rfl | rfl | rfl | rfl | rfl | rfl | rfl | rfl | rfl | rfl
    · obtain ⟨o', ho', hg, hdst, hop, hdep⟩ := q4_0
      cases ho.symm.trans ho'
      refine wpOp_wp ho hg (ow_bs26 hop ?_)
      rw [hdst]
      exact hJ.s0 C (by simp [T4]) hsz hi0
    · obtain ⟨o', ho', hg, hdst, hop, hdep⟩ := q4_1
      cases ho.symm.trans ho'
      refine wpOp_wp ho hg (ow_fieldAddr0 hop e3 ?_)
      rw [hdst]
      exact hJ.load (by decide) (by decide) (by decide) (hJ.tb.put (by rw [hs]; decide) (by simp [T4]))
    · obtain ⟨o', ho', hg, hdst, hop, hdep⟩ := q4_2
      cases ho.symm.trans ho'
      rw [hdep] at hd
      have hx := hJ.tb (1, 39, .pointer (some ⟨ba, 0, none⟩)) (by simp [T4]) (hd 1 (by decide))
      refine wpOp_wp ho hg (ow_load26 hop hx bA.c0 ?_)
      rw [hdst]
      exact hJ.load (by decide) (by decide) (by decide) (hJ.tb.put (by rw [hs]; decide) (by simp [T4]))
    · obtain ⟨o', ho', hg, hdst, hop, hdep⟩ := q4_3
      cases ho.symm.trans ho'
      rw [hdep] at hd
      have l0 := hd 0 (by decide)
      have h6 := nf C.c6 hi0
      have h15 := nf C.c15 (nf C.c14 (nf C.c13 (nf C.c10b h6)))
      have hx := hJ.tb (2, 40, A1) (by simp [T4]) (hd 2 (by decide))
      have hc : cur1 L = 38 := by simp [cur1, h6, hi0]
      have hxs : xs1 L ia ib = [] := by simp [xs1, h6, hi0]
      have own := hJ.o1 l0 h15
      rw [hc, hxs] at own
      refine wpOp_wp ho hg (ow_append (enc := Value.int .i64) _ _ 26 hop W0.heap.size 3 i3 (.int .i64 0) 8 Tryz.underlying26 j1 j2 j3 j4 rfl (by decide) _ _ _ rfl own (fun _ => rfl) ia (by simp only [] at hx; rw [hx]; exact bA.ru) (by simp; omega) hJ.bl.size ?_)
      intro v' w' ho' hg' hb' hat
      rw [hdst]
      have x3 : xs1 (upd L 3) ia ib = ia := by simp [xs1, upd, h6]
      exact hJ.s3 C (by simp [T4]) hsz hi0 l0 hc (by simp [cur1, upd, h6]) (by rw [x3]; simpa using ho') hg' hb' hat
    · obtain ⟨o', ho', hg, hdst, hop, hdep⟩ := q4_4
      cases ho.symm.trans ho'
      refine wpOp_wp ho hg (ow_fieldAddr0 hop e4 ?_)
      rw [hdst]
      exact hJ.load (by decide) (by decide) (by decide) (hJ.tb.put (by rw [hs]; decide) (by simp [T4]))
    · obtain ⟨o', ho', hg, hdst, hop, hdep⟩ := q4_5
      cases ho.symm.trans ho'
      rw [hdep] at hd
      have hx := hJ.tb (4, 42, .pointer (some ⟨bb, 0, none⟩)) (by simp [T4]) (hd 4 (by decide))
      refine wpOp_wp ho hg (ow_load26 hop hx bB.c0 ?_)
      rw [hdst]
      exact hJ.load (by decide) (by decide) (by decide) (hJ.tb.put (by rw [hs]; decide) (by simp [T4]))
    · obtain ⟨o', ho', hg, hdst, hop, hdep⟩ := q4_6
      cases ho.symm.trans ho'
      rw [hdep] at hd
      have l3 := hd 3 (by decide)
      have l0 := C.c3 l3
      have h15 := nf C.c15 (nf C.c14 (nf C.c13 (nf C.c10b hi0)))
      have hx := hJ.tb (5, 43, A3) (by simp [T4]) (hd 5 (by decide))
      have hc : cur1 L = 41 := by simp [cur1, hi0, l3]
      have hxs : xs1 L ia ib = ia := by simp [xs1, hi0, l3]
      have own := hJ.o1 l0 h15
      rw [hc, hxs] at own
      refine wpOp_wp ho hg (ow_append (enc := Value.int .i64) _ _ 26 hop W0.heap.size 3 i3 (.int .i64 0) 8 Tryz.underlying26 j1 j2 j3 j4 rfl (by decide) _ _ _ rfl own (fun _ => rfl) ib (by simp only [] at hx; rw [hx]; exact bB.ru) hi hJ.bl.size ?_)
      intro v' w' ho' hg' hb' hat
      rw [hdst]
      have x6 : xs1 (upd L 6) ia ib = ia ++ ib := by simp [xs1, upd]
      exact hJ.s6 C (by simp [T4]) hsz hi0 l0 hc (by simp [cur1, upd]) (by rw [x6, List.length_append, List.map_append]; exact ho') hg' hb' hat
    · obtain ⟨o', ho', hg, hdst, hop, hdep⟩ := q4_7
      cases ho.symm.trans ho'
      refine wpOp_wp ho hg (ow_bs27 hop ?_)
      rw [hdst]
      exact hJ.s7 C (by simp [T4]) hsz hi0
    · obtain ⟨o', ho', hg, hdst, hop, hdep⟩ := q4_8
      cases ho.symm.trans ho'
      refine wpOp_wp ho hg (ow_fieldAddr1 hop e3 ?_)
      rw [hdst]
      exact hJ.load (by decide) (by decide) (by decide) (hJ.tb.put (by rw [hs]; decide) (by simp [T4]))
    · obtain ⟨o', ho', hg, hdst, hop, hdep⟩ := q4_9
      cases ho.symm.trans ho'
      rw [hdep] at hd
      have hx := hJ.tb (8, 46, .pointer (some ⟨ba, 1, none⟩)) (by simp [T4]) (hd 8 (by decide))
      refine wpOp_wp ho hg (ow_load27 hop hx bA.c1 ?_)
      rw [hdst]
      exact hJ.load (by decide) (by decide) (by decide) (hJ.tb.put (by rw [hs]; decide) (by simp [T4]))
    · obtain ⟨o', ho', hg, hdst, hop, hdep⟩ := q4_10
      cases ho.symm.trans ho'
      rw [hdep] at hd
      have l7 := hd 7 (by decide)
      have h13 := nf C.c13 hi0
      have h15 := nf C.c15 (nf C.c14 h13)
      have hx := hJ.tb (9, 47, A2) (by simp [T4]) (hd 9 (by decide))
      have hc : cur2 L = 45 := by simp [cur2, h13, hi0]
      have hxs : xs2 L la lb = [] := by simp [xs2, h13, hi0]
      have own := hJ.o2 l7 h15
      rw [hc, hxs] at own
      refine wpOp_wp ho hg (ow_append (enc := Value.string) _ _ 27 hop W0.heap.size 47 i0 (.string ByteArray.empty) 16 Tryz.underlying27 k1 k2 k3 k4 rfl (by decide) _ _ _ rfl own (fun _ => rfl) la (by simp only [] at hx; rw [hx]; exact bA.rx) (by simp; omega) hJ.bl.size ?_)
      intro v' w' ho' hg' hb' hat
      rw [hdst]
      have x3 : xs2 (upd L 10) la lb = la := by simp [xs2, upd, h13]
      exact hJ.s10 C (by simp [T4]) hsz hi0 l7 hc (by simp [cur2, upd, h13]) (by rw [x3]; simpa using ho') hg' hb' hat
    · obtain ⟨o', ho', hg, hdst, hop, hdep⟩ := q4_11
      cases ho.symm.trans ho'
      refine wpOp_wp ho hg (ow_fieldAddr1 hop e4 ?_)
      rw [hdst]
      exact hJ.load (by decide) (by decide) (by decide) (hJ.tb.put (by rw [hs]; decide) (by simp [T4]))
    · obtain ⟨o', ho', hg, hdst, hop, hdep⟩ := q4_12
      cases ho.symm.trans ho'
      rw [hdep] at hd
      have hx := hJ.tb (11, 49, .pointer (some ⟨bb, 1, none⟩)) (by simp [T4]) (hd 11 (by decide))
      refine wpOp_wp ho hg (ow_load27 hop hx bB.c1 ?_)
      rw [hdst]
      exact hJ.load (by decide) (by decide) (by decide) (hJ.tb.put (by rw [hs]; decide) (by simp [T4]))
    · obtain ⟨o', ho', hg, hdst, hop, hdep⟩ := q4_13
      cases ho.symm.trans ho'
      rw [hdep] at hd
      have l10 := hd 10 (by decide)
      have l7 := C.c10a l10
      have h15 := nf C.c15 (nf C.c14 hi0)
      have hx := hJ.tb (12, 50, A4) (by simp [T4]) (hd 12 (by decide))
      have hc : cur2 L = 48 := by simp [cur2, hi0, l10]
      have hxs : xs2 L la lb = la := by simp [xs2, hi0, l10]
      have own := hJ.o2 l7 h15
      rw [hc, hxs] at own
      refine wpOp_wp ho hg (ow_append (enc := Value.string) _ _ 27 hop W0.heap.size 47 i0 (.string ByteArray.empty) 16 Tryz.underlying27 k1 k2 k3 k4 rfl (by decide) _ _ _ rfl own (fun _ => rfl) lb (by simp only [] at hx; rw [hx]; exact bB.rx) hl hJ.bl.size ?_)
      intro v' w' ho' hg' hb' hat
      rw [hdst]
      have x6 : xs2 (upd L 13) la lb = la ++ lb := by simp [xs2, upd]
      exact hJ.s13 C (by simp [T4]) hsz hi0 l7 hc (by simp [cur2, upd]) (by rw [x6, List.length_append, List.map_append]; exact ho') hg' hb' hat
    · obtain ⟨o', ho', hg, hdst, hop, hdep⟩ := q4_14
      cases ho.symm.trans ho'
      rw [hdep] at hd
      have l13 := hd 13 (by decide)
      have l6 := hd 6 (by decide)
      have l10 := C.c13 l13
      have l7 := C.c10a l10
      have l0 := C.c3 (C.c6 l6)
      have h15 := nf C.c15 hi0
      have o1 := hJ.o1 l0 h15
      have o2 := hJ.o2 l7 h15
      rw [show cur1 L = 44 by simp [cur1, l6]] at o1
      rw [show cur2 L = 51 by simp [cur2, l13]] at o2
      obtain ⟨A, n, c, x44⟩ := own_sl o1
      obtain ⟨B, m, d, x51⟩ := own_sl o2
      refine wpOp_wp ho hg (ow_build29 hop x44 x51 ?_)
      rw [hdst]
      exact hJ.s14 C (by simp [T4]) hsz hi0 x44 x51
    · obtain ⟨o', ho', hg, hdst, hop, hdep⟩ := q4_15
      cases ho.symm.trans ho'
      rw [hdep] at hd
      have l14 := hd 14 (by decide)
      have l13 := C.c14 l14
      have l10 := C.c13 l13
      have l6 := C.c10b l10
      have l7 := C.c10a l10
      have l0 := C.c3 (C.c6 l6)
      have o1 := hJ.o1 l0 hi0
      have o2 := hJ.o2 l7 hi0
      rw [show cur1 L = 44 by simp [cur1, l6], show xs1 L ia ib = ia ++ ib by simp [xs1, l6]] at o1
      rw [show cur2 L = 51 by simp [cur2, l13], show xs2 L la lb = la ++ lb by simp [xs2, l13]] at o2
      obtain ⟨A, n, c, B, m, d, x44, x51, x52⟩ := hJ.b14 l14
      rw [x44] at o1
      rw [x51] at o2
      refine wpOp_wp ho hg (ow_call1 hop cf11 (R := CanPost w.heap.size (ia ++ ib) (la ++ lb) w) ?_ ?_)
      · rw [x52]
        exact lcanonical_any (ia ++ ib) (la ++ lb) (by rw [List.length_append]; exact hi) (by rw [List.length_append]; exact hl) (by
          intro x hx
          rcases List.mem_append.1 hx with hx | hx
          · exact sa x hx
          · exact sb x hx) _ _ _ (hT.below hJ.bl) (Rd.of_own (e := 3) o1) (rd_names o2)
      · rintro e w' ⟨p, q, rfl, p1, p2, hb⟩
        refine ⟨_, rfl, ?_⟩
        rw [hdst]
        exact hJ.s15 C (by simp [T4]) hsz hi0 p1 p2 hb
    · obtain ⟨o', ho', hg, hdst, hop, hdep⟩ := q4_16
      cases ho.symm.trans ho'
      refine wpOp_wp ho hg (ow_alloc29 hop ?_)
      rw [hdst]
      exact hJ.s16 C (by simp [T4]) hsz hi0
    · obtain ⟨o', ho', hg, hdst, hop, hdep⟩ := q4_17
      cases ho.symm.trans ho'
      rw [hdep] at hd
      obtain ⟨g, x9, hg9, hh, -, -, n3⟩ := hJ.o9 (hd 16 (by decide)) hi0
      obtain ⟨p, q, x53, o1, o2⟩ := hJ.r15 (hd 15 (by decide)) hi0
      obtain ⟨np, nq⟩ := n3 p q (hd 15 (by decide)) x53
      obtain ⟨A, n, c, rfl⟩ := own_sl o1
      obtain ⟨B, m, d, rfl⟩ := own_sl o2
      refine wpOp_wp ho hg (ow_store29 hop x9 x53 hh ?_)
      rw [hdst]
      exact hJ.s17 C (by simp [T4]) (hd 15 (by decide)) (hd 16 (by decide)) (hd 14 (by decide)) x9 hg9 hh x53 np nq o1 o2
  · intro L a w hJ hall
    obtain ⟨g, A, n, c, B, m, d, h9, hbx⟩ := hJ.fin (hall 17 (by rw [size4]; decide))
    rw [hJ.fr.laid (by rw [hsz]; decide)]
    exact hQ _ w g n c m d A B hJ.bl h9 hbx
end Go.Proofs.YtcbgngkalplafaaGreatDoor
/- The plain law of ScriptSets: what the comparisons answer. -/
namespace Go.Proofs.YtcbgngkalplafaaGreatDoor
open Go.RowKit Go.Shelf Lin

/-- What Equal answers. -/
def eqB (i i' : List Int) (l l' : List ByteArray) : Bool := decide (canI i = canI i') && decide (canS i l = canS i' l')
theorem eqB_of {i i' : List Int} {l l' : List ByteArray} (h1 : canI i = canI i') (h2 : canS i l = canS i' l') : eqB i i' l l' = true := by
  unfold eqB; rw [decide_eq_true h1, decide_eq_true h2]; rfl
theorem eqB_symm (i i' : List Int) (l l' : List ByteArray) : eqB i i' l l' = eqB i' i l' l := by
  unfold eqB
  rw [Bool.eq_iff_iff]
  simp only [Bool.and_eq_true, decide_eq_true_eq]
  exact ⟨fun ⟨a, b⟩ => ⟨a.symm, b.symm⟩, fun ⟨a, b⟩ => ⟨a.symm, b.symm⟩⟩
theorem idemS (i : List Int) (l : List ByteArray) : canI (canI i) = canI i ∧ canS (canI i) (canS i l) = canS i l := ⟨(can_idem i l).1, canS_of (can_idem i l).2⟩
theorem pl_isCan (i : List Int) (l : List ByteArray) : (decide (canI i = canI (canI i)) && decide (canS i l = canS (canI i) (canS i l))) = true := by
  have h := idemS i l
  rw [decide_eq_true h.1.symm, decide_eq_true h.2.symm]; rfl
/-- What Minus leaves. -/
def minI (ia ib : List Int) : List Int := (canI ia).filter fun n => !hasB n (canI ib)
def minN (ia ib : List Int) (la lb : List ByteArray) : List ByteArray := ((canN ia la).filter fun n => !hasB n.1 (canS ib lb)).map fun n : Nm => n.1
theorem minN_eq (ia ib : List Int) (la lb : List ByteArray) : (canS ia la).filter (fun x => !hasB x (canS ib lb)) = minN ia ib la lb := by
  unfold minN
  rw [show canS ia la = (canN ia la).map (·.1) from rfl, List.filter_map]
  rfl
theorem pl_rest (ia ib : List Int) (la lb : List ByteArray) : eqB (canI (minI ia ib)) (minI ia ib) (canS (minI ia ib) (minN ia ib la lb)) (minN ia ib la lb) = true := eqB_of (idemS _ (minN ia ib la lb)).1 (idemS _ _).2
theorem pl_comm (ia ib : List Int) (la lb : List ByteArray) : eqB (canI (ia ++ ib)) (canI (ib ++ ia)) (canS (ia ++ ib) (la ++ lb)) (canS (ib ++ ia) (lb ++ la)) = true := by
  have h := can_comm ia ib la lb
  refine eqB_of (by rw [h.1]) ?_
  rw [(idemS (ia ++ ib) (la ++ lb)).2, (idemS (ib ++ ia) (lb ++ la)).2]
  exact canS_of h.2
theorem pl_assoc (ia ib ic : List Int) (la lb lc : List ByteArray) :
    eqB (canI (ia ++ canI (ib ++ ic))) (canI (canI (ia ++ ib) ++ ic)) (canS (ia ++ canI (ib ++ ic)) (la ++ canS (ib ++ ic) (lb ++ lc))) (canS (canI (ia ++ ib) ++ ic) (canS (ia ++ ib) (la ++ lb) ++ lc)) = true := by
  have h := can_assoc ia ib ic la lb lc
  refine eqB_of (by rw [h.1]) ?_
  rw [(idemS (ia ++ canI (ib ++ ic)) _).2, (idemS (canI (ia ++ ib) ++ ic) _).2]
  exact canS_of h.2
theorem pl_dup (i : List Int) (l : List ByteArray) : eqB (canI (i ++ i)) i (canS (i ++ i) (l ++ l)) l = true := by
  have h := can_dup i l
  refine eqB_of (by rw [h.1, (idemS i l).1]) ?_
  rw [(idemS (i ++ i) (l ++ l)).2]
  exact canS_of h.2
theorem pl_none (i : List Int) (l : List ByteArray) : (decide (canI (canI (minI i i)) = []) && decide (canS (canI (minI i i)) (canS (minI i i) (minN i i l l)) = [])) = true := by
  have h1 : minI i i = [] := by
    unfold minI
    rw [List.filter_eq_nil_iff]
    intro a ha
    have := (hasB_iff a (canI i)).2 ha
    simp [this]
  have h2 : minN i i l l = [] := by
    rw [← minN_eq, List.filter_eq_nil_iff]
    intro a ha
    have := (hasB_iff a (canS i l)).2 ha
    simp [this]
  have h3 := can_nil
  have h4 : canS [] [] = [] := by unfold canS; rw [h3.2]; rfl
  rw [h1, h2, h3.1, h4, h3.1, h4]
  rfl
end Go.Proofs.YtcbgngkalplafaaGreatDoor
/- A drawn region whose first operations only read, compute, make new blocks or call, and whose last ones wait for all of them: each operation shown once. -/
namespace Go.Proofs.YtcbgngkalplafaaGreatDoor
open Go.RowKit Go.Shelf

/-- What operation i waits for, itself or through others (n rounds). -/
def ancs (ops : Array Oper) : Nat → Nat → List Nat
  | 0, _ => []
  | n + 1, i => match ops[i]? with
    | none => []
    | some o => (depsOf o) ++ (depsOf o).flatMap (ancs ops n)
theorem ancs_listed {ops : Array Oper} {L : Nat → Bool} (hcl : ∀ i o, ops[i]? = some o → L i = true → ∀ j ∈ depsOf o, L j = true) : ∀ (n i : Nat) (o : Oper), ops[i]? = some o → (∀ j ∈ depsOf o, L j = true) → ∀ j ∈ ancs ops n i, L j = true
  | 0, _, _, _, _, _, hj => by cases hj
  | n + 1, i, o, ho, hd, j, hj => by
    simp only [ancs, ho] at hj
    rcases List.mem_append.1 hj with hj | hj
    · exact hd j hj
    · obtain ⟨k, hk, hj⟩ := List.mem_flatMap.1 hj
      have hLk := hd k hk
      cases hok : ops[k]? with
      | none =>
        cases n with
        | zero => cases hj
        | succ n => simp only [ancs, hok] at hj; cases hj
      | some ok => exact ancs_listed hcl n k ok hok (hcl k ok hok hLk) j hj
variable {P : Program} {ops : Array Oper} {Q : Exit → Act → World → Prop}
theorem wpOps_step {i : Nat} {rest : List Nat} {o : Oper} {a : Act} {w : World} (hi : ops[i]? = some o) (hg : o.guard = none) (h : o.wp P a w (wpOps P ops Q rest) Q) : wpOps P ops Q (i :: rest) a w := by
  rw [wpOps_cons]
  exact wpOp_wp hi hg h

/-- Tail operation i waits for all before it: told by a list of what to go through. -/
def Waits (ops : Array Oper) (m : Nat) : Prop := ∀ (L : Nat → Bool), (∀ i o, ops[i]? = some o → L i = true → ∀ j ∈ depsOf o, L j = true) → ∀ i o, ops[i]? = some o → m ≤ i → (∀ j ∈ depsOf o, L j = true) → ∀ j, j < i → L j = true
theorem waits_of {m n : Nat} (h : ((List.range ops.size).all fun i => decide (i < m) || (List.range i).all fun j => (ancs ops n i).contains j) = true) : Waits ops m := by
  intro L hcl i o ho hmi hd j hj
  have h1 := List.all_eq_true.1 h i (List.mem_range.2 (Array.getElem?_eq_some_iff.1 ho).1)
  simp only [Bool.or_eq_true, decide_eq_true_eq] at h1
  rcases h1 with h1 | h1
  · omega
  · have h2 := List.all_eq_true.1 h1 j (List.mem_range.2 hj)
    exact ancs_listed hcl n i o ho hd j (by simpa using h2)
theorem waits_none {m : Nat} (h : ops.size ≤ m) : Waits ops m := by
  intro L _ i o ho hmi _ j _
  have := (Array.getElem?_eq_some_iff.1 ho).1
  omega

theorem region_rg {id : Nat} {a0 : Act} {W0 : World} (m : Nat) (dl : List Nat) (φ : Nat → Value → World → Prop) (fb : Nat → Value → Option Nat) (hm : P.follows .mixedOrders = true) (hback : edgesBack ops = true) (hmn : m ≤ ops.size) (hw : Waits ops m)
    (hdl : dl.length = m) (hds : ∀ i (h : i < dl.length), ∃ o, ops[i]? = some o ∧ o.dst = some dl[i]) (hnd : dl.Nodup) (hsz : ∀ d ∈ dl, d < a0.tmps.size)
    (hstab : ∀ s v w w', φ s v w → Below w.heap.size w w' → φ s v w')
    (hstep : ∀ a w i o, i < m → ops[i]? = some o → Frm a0 dl a → Below W0.heap.size W0 w → (∀ j ∈ depsOf o, φ (dl.getD j 0) (a.eval (.tmp (dl.getD j 0))) w) → wpOp P ops Q i (fun a' w' => ∃ v, a' = a.put o.dst v ∧ φ (dl.getD i 0) v w' ∧ Below w.heap.size w w' ∧ ∀ g, fb (dl.getD i 0) v = some g → w.heap.size ≤ g ∧ g < w'.heap.size) a w)
    (hend : ∀ a w, Frm a0 dl a → Below W0.heap.size W0 w → (∀ s ∈ dl, φ s (a.eval (.tmp s)) w) → (∀ s ∈ dl, ∀ s' ∈ dl, s ≠ s' → ∀ g, fb s (a.eval (.tmp s)) = some g → fb s' (a.eval (.tmp s')) ≠ some g) → wpOps P ops Q (List.range' m (ops.size - m)) a w) : (Code.region id ops true).wp P Q a0 W0 := by
  refine region_JC (fun L a w => (∀ i, ops.size ≤ i → L i = false) ∧ (L m = false → Frm a0 dl a ∧ Below W0.heap.size W0 w ∧ (∀ i, i < m → L i = true → φ (dl.getD i 0) (a.eval (.tmp (dl.getD i 0))) w) ∧ (∀ i, m ≤ i → L i = false) ∧ (∀ i, i < m → L i = true → ∀ g, fb (dl.getD i 0) (a.eval (.tmp (dl.getD i 0))) = some g → g < w.heap.size) ∧ ∀ i j, i < m → j < m → L i = true → L j = true → i ≠ j → ∀ g, fb (dl.getD i 0) (a.eval (.tmp (dl.getD i 0))) = some g → fb (dl.getD j 0) (a.eval (.tmp (dl.getD j 0))) ≠ some g) ∧
    (L m = true → ∃ k, m < k ∧ k ≤ ops.size ∧ (∀ i, i < k → L i = true) ∧ (∀ i, k ≤ i → L i = false) ∧ wpOps P ops Q (List.range' k (ops.size - k)) a w)) hm hback ?_ ?_ ?_
  · exact ⟨fun _ _ => rfl, fun _ => ⟨Frm.refl _ _, (Below.refl _ _).drew, (fun _ _ h => nomatch h), fun _ _ => rfl, (fun _ _ h => nomatch h), fun _ _ _ _ h => nomatch h⟩, fun h => nomatch h⟩
  · rintro L a w i o ⟨hbig, hJ0, hJ1⟩ hcl ho hi hd
    have hlt : i < ops.size := (Array.getElem?_eq_some_iff.1 ho).1
    have hbig' : ∀ k, ops.size ≤ k → upd L i k = false := fun k hk => by rw [upd_ne (by omega)]; exact hbig k hk
    cases hLm : L m with
    | false =>
      obtain ⟨hfr, hbl, hφ, hrest, hfl, hfd⟩ := hJ0 hLm
      by_cases him : i < m
      · have hdm : ∀ j ∈ depsOf o, φ (dl.getD j 0) (a.eval (.tmp (dl.getD j 0))) w := fun j hj => by
          have hLj := hd j hj
          refine hφ j ?_ hLj
          rcases Nat.lt_or_ge j m with h | h
          · exact h
          · rw [hrest j h] at hLj; cases hLj
        refine wpOp_mono ?_ (hstep a w i o him ho hfr hbl hdm)
        rintro a' w' ⟨v, rfl, hv, hb, hfv⟩
        have hid : i < dl.length := by omega
        obtain ⟨o', ho', hdst⟩ := hds i hid
        cases ho.symm.trans ho'
        have hgi : dl.getD i 0 = dl[i] := by simp [hid]
        have hmem : dl[i] ∈ dl := List.getElem_mem hid
        rw [hdst]
        have hev : ∀ k, k < m → k ≠ i → (a.put (some dl[i]) v).eval (.tmp (dl.getD k 0)) = a.eval (.tmp (dl.getD k 0)) := fun k hk hki => by
          have hkd : k < dl.length := by omega
          have hgk : dl.getD k 0 = dl[k] := by simp [hkd]
          rw [hgk]
          exact ev_ne (fun e => hki ((List.getElem_inj hnd).1 e.symm))
        have hei : (a.put (some dl[i]) v).eval (.tmp (dl.getD i 0)) = v := by rw [hgi]; exact ev_same (by rw [hfr.sz]; exact hsz _ hmem)
        refine ⟨hbig', fun _ => ⟨hfr.put hmem v, hbl.trans (below_of hb hbl.size), ?_, ?_, ?_, ?_⟩, ?_⟩
        · intro k hk hLk
          by_cases hki : k = i
          · subst hki
            rw [hei]
            exact hv
          · rw [upd_ne hki] at hLk
            rw [hev k hk hki]
            exact hstab _ _ _ _ (hφ k hk hLk) hb
        · intro k hk
          rw [upd_ne (by omega)]
          exact hrest k hk
        · intro k hk hLk g hg
          by_cases hki : k = i
          · subst hki
            rw [hei] at hg
            exact (hfv g hg).2
          · rw [upd_ne hki] at hLk
            rw [hev k hk hki] at hg
            exact Nat.lt_of_lt_of_le (hfl k hk hLk g hg) hb.size
        · intro k j hk hj hLk hLj hkj g hg hg'
          by_cases hki : k = i
          · subst hki
            rw [hei] at hg
            have hji : j ≠ k := fun e => hkj e.symm
            rw [upd_ne hji] at hLj
            rw [hev j hj hji] at hg'
            have h1 := (hfv g hg).1
            have h2 := hfl j hj hLj g hg'
            omega
          · rw [upd_ne hki] at hLk
            rw [hev k hk hki] at hg
            by_cases hji : j = i
            · subst hji
              rw [hei] at hg'
              have h1 := (hfv g hg').1
              have h2 := hfl k hk hLk g hg
              omega
            · rw [upd_ne hji] at hLj
              rw [hev j hj hji] at hg'
              exact hfd k j hk hj hLk hLj hkj g hg hg'
        · intro h
          rw [upd_ne (by omega), hLm] at h
          cases h
      · have hall := hw L hcl i o ho (by omega) hd
        have him' : i = m := by
          rcases Nat.lt_or_ge m i with h | h
          · have := hall m h; rw [hLm] at this; cases this
          · omega
        subst him'
        have hall' : ∀ s ∈ dl, φ s (a.eval (.tmp s)) w := by
          intro s hs
          obtain ⟨k, hk, rfl⟩ := List.getElem_of_mem hs
          have := hφ k (by omega) (hall k (by omega))
          simpa [hk] using this
        have hdis : ∀ s ∈ dl, ∀ s' ∈ dl, s ≠ s' → ∀ g, fb s (a.eval (.tmp s)) = some g → fb s' (a.eval (.tmp s')) ≠ some g := by
          intro s hs s' hs' hne g
          obtain ⟨k, hk, rfl⟩ := List.getElem_of_mem hs
          obtain ⟨j, hj, rfl⟩ := List.getElem_of_mem hs'
          have := hfd k j (by omega) (by omega) (hall k (by omega)) (hall j (by omega)) (fun e => hne (by subst e; rfl)) g
          simpa [hk, hj] using this
        have he := hend a w hfr hbl hall' hdis
        rw [show ops.size - i = (ops.size - (i + 1)) + 1 by omega, List.range'_succ, wpOps_cons] at he
        refine wpOp_mono ?_ he
        intro a' w' h
        refine ⟨hbig', fun h' => ?_, fun _ => ⟨i + 1, by omega, by omega, ?_, ?_, by simpa using h⟩⟩
        · rw [upd_self] at h'; cases h'
        · intro k hk
          by_cases hki : k = i
          · subst hki; exact upd_self
          · rw [upd_ne hki]; exact hall k (by omega)
        · intro k hk
          rw [upd_ne (by omega)]
          exact hrest k (by omega)
    | true =>
      obtain ⟨k, hmk, hkn, htr, hfa, he⟩ := hJ1 hLm
      have hki : k ≤ i := by
        rcases Nat.lt_or_ge i k with h | h
        · rw [htr i h] at hi; cases hi
        · exact h
      have hik : i = k := by
        rcases Nat.lt_or_ge k i with h | h
        · have := hw L hcl i o ho (by omega) hd k h
          rw [hfa k (Nat.le_refl _)] at this; cases this
        · omega
      subst hik
      rw [show ops.size - i = (ops.size - (i + 1)) + 1 by omega, List.range'_succ, wpOps_cons] at he
      refine wpOp_mono ?_ he
      intro a' w' h
      refine ⟨hbig', fun h' => ?_, fun _ => ⟨i + 1, by omega, by omega, ?_, ?_, by simpa using h⟩⟩
      · rw [upd_ne (by omega), hLm] at h'; cases h'
      · intro k hk
        by_cases hki : k = i
        · subst hki; exact upd_self
        · rw [upd_ne hki]; exact htr k (by omega)
      · intro k hk
        rw [upd_ne (by omega)]
        exact hfa k (by omega)
  · rintro L a w ⟨hbig, hJ0, hJ1⟩ hall
    cases hLm : L m with
    | false =>
      have hmn' : m = ops.size := by
        rcases Nat.lt_or_ge m ops.size with h | h
        · rw [hall m h] at hLm; cases hLm
        · omega
      obtain ⟨hfr, hbl, hφ, -, -, hfd⟩ := hJ0 hLm
      have he := hend a w hfr hbl (by
        intro s hs
        obtain ⟨k, hk, rfl⟩ := List.getElem_of_mem hs
        have := hφ k (by omega) (hall k (by omega))
        simpa [hk] using this) (by
        intro s hs s' hs' hne g
        obtain ⟨k, hk, rfl⟩ := List.getElem_of_mem hs
        obtain ⟨j, hj, rfl⟩ := List.getElem_of_mem hs'
        have := hfd k j (by omega) (by omega) (hall k (by omega)) (hall j (by omega)) (fun e => hne (by subst e; rfl)) g
        simpa [hk, hj] using this)
      rw [hmn', Nat.sub_self] at he
      exact he
    | true =>
      obtain ⟨k, hmk, hkn, htr, hfa, he⟩ := hJ1 hLm
      have : k = ops.size := by
        rcases Nat.lt_or_ge k ops.size with h | h
        · have := hfa k (Nat.le_refl _); rw [hall k h] at this; cases this
        · omega
      subst this
      rw [Nat.sub_self] at he
      exact he

/-- What is to be shown of operation i of a region that goes by region_rg. -/
def RgStep (P : Program) (ops : Array Oper) (Q : Exit → Act → World → Prop) (a0 : Act) (W0 : World) (dl : List Nat) (φ : Nat → Value → World → Prop) (fb : Nat → Value → Option Nat) (i : Nat) : Prop :=
  ∀ a w o, ops[i]? = some o → Frm a0 dl a → Below W0.heap.size W0 w → (∀ j ∈ depsOf o, φ (dl.getD j 0) (a.eval (.tmp (dl.getD j 0))) w) → wpOp P ops Q i (fun a' w' => ∃ v, a' = a.put o.dst v ∧ φ (dl.getD i 0) v w' ∧ Below w.heap.size w w' ∧ ∀ g, fb (dl.getD i 0) v = some g → w.heap.size ≤ g ∧ g < w'.heap.size) a w
theorem lt_succ_of {n : Nat} {S : Nat → Prop} (h : ∀ i, i < n → S i) (hn : S n) : ∀ i, i < n + 1 → S i := fun i hi => by
  rcases Nat.lt_or_ge i n with h' | h'
  · exact h i h'
  · rw [show i = n by omega]; exact hn
theorem lt_zero_of {S : Nat → Prop} : ∀ i, i < 0 → S i := fun i hi => absurd hi (Nat.not_lt_zero i)

section
variable {a0 : Act} {W0 : World} {dl : List Nat} {φ : Nat → Value → World → Prop} {fb : Nat → Value → Option Nat}
/-- The post of one step. -/
def RgK (φ : Nat → Value → World → Prop) (fb : Nat → Value → Option Nat) (s : Nat) (o : Oper) (a : Act) (w : World) (a' : Act) (w' : World) : Prop := ∃ v, a' = a.put o.dst v ∧ φ s v w' ∧ Below w.heap.size w w' ∧ ∀ g, fb s v = some g → w.heap.size ≤ g ∧ g < w'.heap.size
theorem rgk {s : Nat} {o : Oper} {a : Act} {w w' : World} {v : Value} (h : φ s v w') (hb : Below w.heap.size w w') (hf : fb s v = none) : RgK φ fb s o a w (a.put o.dst v) w' := ⟨v, rfl, h, hb, fun g hg => by rw [hf] at hg; cases hg⟩
theorem rgk0 {s : Nat} {o : Oper} {a : Act} {w : World} {v : Value} (h : φ s v w) (hf : fb s v = none) : RgK φ fb s o a w (a.put o.dst v) w := rgk h (Below.refl _ _) hf
theorem rgk1 {s : Nat} {o : Oper} {a : Act} {w w' : World} {v : Value} {g : Nat} (h : φ s v w') (hb : Below w.heap.size w w') (hf : fb s v = some g) (h1 : w.heap.size ≤ g) (h2 : g < w'.heap.size) : RgK φ fb s o a w (a.put o.dst v) w' := ⟨v, rfl, h, hb, fun g' hg => by rw [hf] at hg; cases hg; exact ⟨h1, h2⟩⟩
theorem rg_step {i s : Nat} {op : Op} {deps : List Nat} (q : ∃ o, ops[i]? = some o ∧ o.guard = none ∧ o.dst = some s ∧ o.op = op ∧ depsOf o = deps) (hs : dl.getD i 0 = s)
    (h : ∀ (a : Act) (w : World) (o : Oper), o.op = op → Frm a0 dl a → Below W0.heap.size W0 w → (∀ j ∈ deps, φ (dl.getD j 0) (a.eval (.tmp (dl.getD j 0))) w) → o.wp P a w (RgK φ fb s o a w) Q) : RgStep P ops Q a0 W0 dl φ fb i := by
  intro a w o ho hf hb hd
  obtain ⟨o', ho', hg, hdst, hop, hdep⟩ := q
  cases ho.symm.trans ho'
  rw [hdep] at hd
  rw [hs]
  exact wpOp_wp ho hg (h a w o hop hf hb hd)
theorem wpOp_guard {i g s : Nat} {want : Bool} {o og : Oper} {a : Act} {w : World} {K : Act → World → Prop} (hi : ops[i]? = some o) (hg : o.guard = some (g, want)) (hog : ops[g]? = some og) (hdst : og.dst = some s) (hv : a.eval (.tmp s) = .bool want) (h : o.wp P a w K Q) : wpOp P ops Q i K a w := by
  have hy : yielded ops a.tmps g = some want := by
    unfold yielded
    simp only [hog, Option.bind_some, hdst]
    unfold Act.eval at hv
    cases ht : a.tmps[s]? with
    | none => simp [ht, undef] at hv
    | some v =>
      simp [ht] at hv
      simp [hv]
  unfold wpOp
  simp only [hi, Region.wanted, hg, hy, beq_self_eq_true, if_true]
  exact .inl h
theorem rg_guard {i s g sg : Nat} {want : Bool} {op : Op} {deps : List Nat} (q : ∃ o, ops[i]? = some o ∧ o.guard = some (g, want) ∧ o.dst = some s ∧ o.op = op ∧ depsOf o = deps) (hs : dl.getD i 0 = s) (hog : ∃ og, ops[g]? = some og ∧ og.dst = some sg) (hsg : dl.getD g 0 = sg) (hmem : g ∈ deps) (hv : ∀ v w, φ sg v w → v = .bool want)
    (h : ∀ (a : Act) (w : World) (o : Oper), o.op = op → Frm a0 dl a → Below W0.heap.size W0 w → (∀ j ∈ deps, φ (dl.getD j 0) (a.eval (.tmp (dl.getD j 0))) w) → o.wp P a w (RgK φ fb s o a w) Q) : RgStep P ops Q a0 W0 dl φ fb i := by
  intro a w o ho hf hb hd
  obtain ⟨o', ho', hg, hdst, hop, hdep⟩ := q
  obtain ⟨og, hog, hogd⟩ := hog
  cases ho.symm.trans ho'
  rw [hdep] at hd
  rw [hs]
  have := hd g hmem
  rw [hsg] at this
  exact wpOp_guard ho hg hog hogd (hv _ _ this) (h a w o hop hf hb hd)
end
end Go.Proofs.YtcbgngkalplafaaGreatDoor
/- More operations of drawn regions, one law for each kind. -/
namespace Go.Proofs.YtcbgngkalplafaaGreatDoor
open Go.RowKit Go.Shelf

section
variable {o : Oper} {a : Act} {w : World} {K : Act → World → Prop} {Q : Exit → Act → World → Prop}

set_option maxRecDepth 100000 in
theorem ow_not {x : Operand} {b : Bool} (ho : o.op = .unOp .not 4 x) (hx : a.eval x = .bool b) (h : K (a.put o.dst (.bool (!b))) w) : o.wp Tryz.prog a w K Q := by
  have hu := Tryz.underlying4
  unfold Oper.wp execOp
  rw [ho]
  generalize a.eval = ev at hx ⊢
  go_simp
  exact h
set_option maxRecDepth 100000 in
theorem ow_move {x : Operand} {v : Value} (ho : o.op = .move x) (hx : a.eval x = v) (h : K (a.put o.dst v) w) : o.wp Tryz.prog a w K Q := by
  unfold Oper.wp execOp
  rw [ho]
  generalize a.eval = ev at hx ⊢
  go_simp
  exact h
set_option maxRecDepth 100000 in
theorem ow_pickT {c x y : Operand} {v : Value} (ho : o.op = .pick c x y) (hc : a.eval c = .bool true) (hx : a.eval x = v) (h : K (a.put o.dst v) w) : o.wp Tryz.prog a w K Q := by
  unfold Oper.wp execOp
  rw [ho]
  generalize a.eval = ev at hc hx ⊢
  go_simp
  exact h
set_option maxRecDepth 100000 in
theorem ow_pickF {c x y : Operand} {v : Value} (ho : o.op = .pick c x y) (hc : a.eval c = .bool false) (hx : a.eval y = v) (h : K (a.put o.dst v) w) : o.wp Tryz.prog a w K Q := by
  unfold Oper.wp execOp
  rw [ho]
  generalize a.eval = ev at hc hx ⊢
  go_simp
  exact h
set_option maxRecDepth 100000 in
theorem ow_eqlB {x y : Operand} {b c : Bool} (ho : o.op = .binOp .eql 4 x y 4) (hx : a.eval x = .bool b) (hy : a.eval y = .bool c) (h : K (a.put o.dst (.bool (b == c))) w) : o.wp Tryz.prog a w K Q := by
  have hu := Tryz.underlying4
  unfold Oper.wp execOp
  rw [ho]
  generalize a.eval = ev at hx hy ⊢
  go_simp
  exact h
set_option maxRecDepth 100000 in
theorem ow_index26 {x y : Operand} {b off n c k : Nat} (ho : o.op = .indexAddr 26 x y) (hx : a.eval x = .slice (some ⟨b, off, none⟩) n c) (hy : a.eval y = .int .i64 k) (hk : k < n) (h : K (a.put o.dst (.pointer (some ⟨b, off + k, none⟩))) w) : o.wp Tryz.prog a w K Q := by
  have hu := Tryz.underlying26
  have hu3 := Tryz.underlying3
  have h1 : (0 : Int) ≤ (k : Int) := by omega
  have h2 : (k : Int) < (n : Int) := by omega
  unfold Oper.wp execOp
  rw [ho]
  generalize a.eval = ev at hx hy ⊢
  go_simp
  exact h
set_option maxRecDepth 100000 in
theorem ow_index27 {x y : Operand} {b off n c k : Nat} (ho : o.op = .indexAddr 27 x y) (hx : a.eval x = .slice (some ⟨b, off, none⟩) n c) (hy : a.eval y = .int .i64 k) (hk : k < n) (h : K (a.put o.dst (.pointer (some ⟨b, off + k, none⟩))) w) : o.wp Tryz.prog a w K Q := by
  have hu := Tryz.underlying27
  have hu3 := Tryz.underlying47
  have h1 : (0 : Int) ≤ (k : Int) := by omega
  have h2 : (k : Int) < (n : Int) := by omega
  unfold Oper.wp execOp
  rw [ho]
  generalize a.eval = ev at hx hy ⊢
  go_simp
  exact h
set_option maxRecDepth 100000 in
theorem ow_load3 {x : Operand} {p : Addr} {v : Value} (ho : o.op = .load 3 x) (hx : a.eval x = .pointer (some p)) (hc : w.cell? p = some v) (h : K (a.put o.dst v) w) : o.wp Tryz.prog a w K Q := by
  have hu := Tryz.underlying3
  unfold Oper.wp execOp
  rw [ho]
  generalize a.eval = ev at hx ⊢
  go_simp
  exact h
set_option maxRecDepth 100000 in
theorem ow_load47 {x : Operand} {p : Addr} {v : Value} (ho : o.op = .load 47 x) (hx : a.eval x = .pointer (some p)) (hc : w.cell? p = some v) (h : K (a.put o.dst v) w) : o.wp Tryz.prog a w K Q := by
  have hu := Tryz.underlying47
  unfold Oper.wp execOp
  rw [ho]
  generalize a.eval = ev at hx ⊢
  go_simp
  exact h
set_option maxRecDepth 100000 in
theorem ow_one26 {x : Operand} {n : Int} (ho : o.op = .buildSlice 26 1 #[(0, x)]) (hx : a.eval x = .int .i64 n) (h : K (a.put o.dst (.slice (some ⟨w.heap.size, 0, none⟩) 1 1)) (w.alloc (.cells #[.int .i64 n] 3))) : o.wp Tryz.prog a w K Q := by
  have hu := Tryz.underlying26
  have hu3 := Tryz.underlying3
  unfold Oper.wp execOp
  rw [ho]
  generalize a.eval = ev at hx ⊢
  go_simp
  exact h
set_option maxRecDepth 100000 in
theorem ow_one27 {x : Operand} {n : ByteArray} (ho : o.op = .buildSlice 27 1 #[(0, x)]) (hx : a.eval x = .string n) (h : K (a.put o.dst (.slice (some ⟨w.heap.size, 0, none⟩) 1 1)) (w.alloc (.cells #[.string n] 47))) : o.wp Tryz.prog a w K Q := by
  have hu := Tryz.underlying27
  have hu3 := Tryz.underlying47
  unfold Oper.wp execOp
  rw [ho]
  generalize a.eval = ev at hx ⊢
  go_simp
  exact h
set_option maxRecDepth 100000 in
theorem ow_store26 {x y : Operand} {p : Addr} {A : Option Addr} {n c : Nat} {u0 : Value} (ho : o.op = .store 26 x y) (hx : a.eval x = .pointer (some p)) (hy : a.eval y = .slice A n c) (hc : w.cell? p = some u0) (hf : w.frozen? p = false)
    (h : K (a.put o.dst undef) (w.setCell p (.slice A n c))) : o.wp Tryz.prog a w K Q := by
  have hu := Tryz.underlying26
  unfold Oper.wp execOp
  rw [ho]
  generalize a.eval = ev at hx hy ⊢
  go_simp
  exact h
set_option maxRecDepth 100000 in
theorem ow_store27 {x y : Operand} {p : Addr} {A : Option Addr} {n c : Nat} {u0 : Value} (ho : o.op = .store 27 x y) (hx : a.eval x = .pointer (some p)) (hy : a.eval y = .slice A n c) (hc : w.cell? p = some u0) (hf : w.frozen? p = false)
    (h : K (a.put o.dst undef) (w.setCell p (.slice A n c))) : o.wp Tryz.prog a w K Q := by
  have hu := Tryz.underlying27
  unfold Oper.wp execOp
  rw [ho]
  generalize a.eval = ev at hx hy ⊢
  go_simp
  exact h
set_option maxRecDepth 100000 in
theorem ow_assign {x : Operand} {v : Value} (ho : o.op = .assign x) (hx : a.eval x = v) (h : K (a.put o.dst v) w) : o.wp Tryz.prog a w K Q := by
  unfold Oper.wp execOp
  rw [ho]
  generalize a.eval = ev at hx ⊢
  go_simp
  exact h
theorem cf12 (args : Array Value) (w : World) : (callFunc 12 args).run Tryz.prog w = .ok (.enter 12 args) w := cf_of Tryz.func12 (by kernel_rfl) (by kernel_rfl) args w
theorem cf13 (args : Array Value) (w : World) : (callFunc 13 args).run Tryz.prog w = .ok (.enter 13 args) w := cf_of Tryz.func13 (by kernel_rfl) (by kernel_rfl) args w
theorem cf14 (args : Array Value) (w : World) : (callFunc 14 args).run Tryz.prog w = .ok (.enter 14 args) w := cf_of Tryz.func14 (by kernel_rfl) (by kernel_rfl) args w
theorem cf16 (args : Array Value) (w : World) : (callFunc 16 args).run Tryz.prog w = .ok (.enter 16 args) w := cf_of Tryz.func16 (by kernel_rfl) (by kernel_rfl) args w
theorem cf20 (args : Array Value) (w : World) : (callFunc 20 args).run Tryz.prog w = .ok (.enter 20 args) w := cf_of Tryz.func20 (by kernel_rfl) (by kernel_rfl) args w
theorem cf21 (args : Array Value) (w : World) : (callFunc 21 args).run Tryz.prog w = .ok (.enter 21 args) w := cf_of Tryz.func21 (by kernel_rfl) (by kernel_rfl) args w
theorem cf22 (args : Array Value) (w : World) : (callFunc 22 args).run Tryz.prog w = .ok (.enter 22 args) w := cf_of Tryz.func22 (by kernel_rfl) (by kernel_rfl) args w
theorem cf23 (args : Array Value) (w : World) : (callFunc 23 args).run Tryz.prog w = .ok (.enter 23 args) w := cf_of Tryz.func23 (by kernel_rfl) (by kernel_rfl) args w
theorem cf24 (args : Array Value) (w : World) : (callFunc 24 args).run Tryz.prog w = .ok (.enter 24 args) w := cf_of Tryz.func24 (by kernel_rfl) (by kernel_rfl) args w
end
end Go.Proofs.YtcbgngkalplafaaGreatDoor
/- What the slots of a drawn region are known to hold: a few kinds, each of which stays. The contracts on what is taken back, with one word for their conditions. -/
namespace Go.Proofs.YtcbgngkalplafaaGreatDoor
open Go.RowKit Go.Shelf Lin

/-- What is known of a slot. -/
inductive As where
  | any
  | val (v : Value)
  | rdw (is : List Int) (ls : List ByteArray)
  | box (n0 : Nat)
  | one (n0 : Nat) (x : Value) (e : TypeId)
def As.holds : As → Value → World → Prop
  | .any, _, _ => True
  | .val v0, v, _ => v = v0
  | .rdw is ls, v, w => RdW w v is ls
  | .box n0, v, w => ∃ g, v = .pointer (some ⟨g, 0, none⟩) ∧ n0 ≤ g ∧ w.heap[g]? = some emptyBox
  | .one n0 x e, v, w => ∃ g, v = .slice (some ⟨g, 0, none⟩) 1 1 ∧ n0 ≤ g ∧ w.heap[g]? = some (.cells #[x] e)
theorem As.stable {s : As} {v : Value} {w w' : World} (h : s.holds v w) (hb : Below w.heap.size w w') : s.holds v w' := by
  cases s with
  | any => trivial
  | val v0 => exact h
  | rdw is ls => exact RdW.below h hb
  | box n0 => obtain ⟨g, e, h1, h2⟩ := h; exact ⟨g, e, h1, (hb.block g (lt_of_heap h2)).trans h2⟩
  | one n0 x e => obtain ⟨g, e, h1, h2⟩ := h; exact ⟨g, e, h1, (hb.block g (lt_of_heap h2)).trans h2⟩
/-- A box of the region's own is nobody else's. -/
def As.fb : As → Value → Option Nat
  | .box _, .pointer (some a) => some a.block
  | _, _ => none
/-- An operation told by what the proofs want of it. -/
def OpQ (ops : Array Oper) (i : Nat) (g : Option (Nat × Bool)) (s : Option Tmp) (op : Op) (deps : List Nat) : Prop := ∃ o, ops[i]? = some o ∧ o.guard = g ∧ o.dst = s ∧ o.op = op ∧ depsOf o = deps
section
variable {P : Program} {ops : Array Oper} {Q : Exit → Act → World → Prop} {a0 : Act} {W0 : World} {dl : List Nat} {tbl : Nat → As}
/-- The step of an operation, by the table. -/
def AsStep (P : Program) (ops : Array Oper) (Q : Exit → Act → World → Prop) (a0 : Act) (W0 : World) (dl : List Nat) (tbl : Nat → As) (i : Nat) : Prop := RgStep P ops Q a0 W0 dl (fun s v w => (tbl s).holds v w) (fun s v => (tbl s).fb v) i
/-- The post of a step. -/
def AsK (tbl : Nat → As) (s : Nat) (o : Oper) (a : Act) (w : World) : Act → World → Prop := RgK (fun s v w => (tbl s).holds v w) (fun s v => (tbl s).fb v) s o a w
theorem ask0 {s : Nat} {o : Oper} {a : Act} {w : World} {v v0 : Value} (ht : tbl s = .val v0) (hv : v = v0) : AsK tbl s o a w (a.put o.dst v) w := rgk0 (by show (tbl s).holds v w; rw [ht]; exact hv) (by show (tbl s).fb v = none; rw [ht]; rfl)
theorem ask {s : Nat} {o : Oper} {a : Act} {w w' : World} {v v0 : Value} (ht : tbl s = .val v0) (hv : v = v0) (hb : Below w.heap.size w w') : AsK tbl s o a w (a.put o.dst v) w' := rgk (by show (tbl s).holds v w'; rw [ht]; exact hv) hb (by show (tbl s).fb v = none; rw [ht]; rfl)
theorem askw {s : Nat} {o : Oper} {a : Act} {w w' : World} {v : Value} {is : List Int} {ls : List ByteArray} (ht : tbl s = .rdw is ls) (hv : RdW w' v is ls) (hb : Below w.heap.size w w') : AsK tbl s o a w (a.put o.dst v) w' := rgk (by show (tbl s).holds v w'; rw [ht]; exact hv) hb (by show (tbl s).fb v = none; rw [ht]; rfl)
theorem askb {s : Nat} {o : Oper} {a : Act} {w : World} {n0 : Nat} (ht : tbl s = .box n0) (hn : n0 ≤ w.heap.size) : AsK tbl s o a w (a.put o.dst (.pointer (some ⟨w.heap.size, 0, none⟩))) (w.alloc (.cells #[.slice none 0 0, .slice none 0 0] 29)) :=
  rgk1 (g := w.heap.size) (by show (tbl s).holds _ _; rw [ht]; exact ⟨_, rfl, hn, heapA _ _⟩) ((Below.refl _ _).alloc (Nat.le_refl _) _) (by show (tbl s).fb _ = _; rw [ht]; rfl) (Nat.le_refl _) (by simp)
theorem asko {s : Nat} {o : Oper} {a : Act} {w : World} {n0 : Nat} {x : Value} {e : TypeId} (ht : tbl s = .one n0 x e) (hn : n0 ≤ w.heap.size) : AsK tbl s o a w (a.put o.dst (.slice (some ⟨w.heap.size, 0, none⟩) 1 1)) (w.alloc (.cells #[x] e)) :=
  rgk (by show (tbl s).holds _ _; rw [ht]; exact ⟨_, rfl, hn, heapA _ _⟩) ((Below.refl _ _).alloc (Nat.le_refl _) _) (by show (tbl s).fb _ = none; rw [ht]; rfl)
theorem as_step {i s : Nat} {op : Op} {deps : List Nat} (q : OpQ ops i none (some s) op deps) (hs : dl.getD i 0 = s)
    (h : ∀ (a : Act) (w : World) (o : Oper), o.op = op → Frm a0 dl a → Below W0.heap.size W0 w → (∀ t ∈ deps.map (fun j => dl.getD j 0), (tbl t).holds (a.eval (.tmp t)) w) → o.wp P a w (AsK tbl s o a w) Q) : AsStep P ops Q a0 W0 dl tbl i :=
  rg_step q hs fun a w o hop hf hb hd => h a w o hop hf hb fun t ht => by
    obtain ⟨j, hj, rfl⟩ := List.mem_map.1 ht
    exact hd j hj
theorem as_guard {i s g sg : Nat} {want : Bool} {op : Op} {deps : List Nat} (q : OpQ ops i (some (g, want)) (some s) op deps) (hs : dl.getD i 0 = s) (hog : ∃ og, ops[g]? = some og ∧ og.dst = some sg) (hsg : dl.getD g 0 = sg) (hmem : g ∈ deps) (hv : tbl sg = .val (.bool want))
    (h : ∀ (a : Act) (w : World) (o : Oper), o.op = op → Frm a0 dl a → Below W0.heap.size W0 w → (∀ t ∈ deps.map (fun j => dl.getD j 0), (tbl t).holds (a.eval (.tmp t)) w) → o.wp P a w (AsK tbl s o a w) Q) : AsStep P ops Q a0 W0 dl tbl i :=
  rg_guard q hs hog hsg hmem (fun v w h => by
    have h' : (tbl sg).holds v w := h
    rw [hv] at h'
    exact h') fun a w o hop hf hb hd => h a w o hop hf hb fun t ht => by
    obtain ⟨j, hj, rfl⟩ := List.mem_map.1 ht
    exact hd j hj
theorem region_as {id : Nat} (m : Nat) (dl : List Nat) (tbl : Nat → As) (hm : P.follows .mixedOrders = true) (hback : edgesBack ops = true) (hmn : m ≤ ops.size) (hw : Waits ops m)
    (hdl : dl.length = m) (hds : ((List.range m).all fun i => decide ((ops[i]?).bind (·.dst) = some (dl.getD i 0))) = true) (hnd : dl.Nodup) (hsz : ∀ d ∈ dl, d < a0.tmps.size)
    (hstep : ∀ i, i < m → AsStep P ops Q a0 W0 dl tbl i)
    (hend : ∀ a w, Frm a0 dl a → Below W0.heap.size W0 w → (∀ s ∈ dl, (tbl s).holds (a.eval (.tmp s)) w) → (∀ s ∈ dl, ∀ s' ∈ dl, s ≠ s' → ∀ g, (tbl s).fb (a.eval (.tmp s)) = some g → (tbl s').fb (a.eval (.tmp s')) ≠ some g) → wpOps P ops Q (List.range' m (ops.size - m)) a w) : (Code.region id ops true).wp P Q a0 W0 := by
  refine region_rg m dl (fun s v w => (tbl s).holds v w) (fun s v => (tbl s).fb v) hm hback hmn hw hdl ?_ hnd hsz (fun s v w w' h hb => As.stable (s := tbl s) h hb) (fun a w i o hi ho hf hb hd => hstep i hi a w o ho hf hb hd) hend
  intro i h
  have h1 := List.all_eq_true.1 hds i (List.mem_range.2 (by omega))
  rw [decide_eq_true_eq] at h1
  have hg : dl.getD i 0 = dl[i] := by simp [h]
  cases ho : ops[i]? with
  | none => rw [ho] at h1; cases h1
  | some o => rw [ho, hg] at h1; exact ⟨o, rfl, h1⟩
end

/-- At most n numbers and names, none too long. -/
structure Ok (n : Nat) (is : List Int) (ls : List ByteArray) : Prop where
  i : is.length ≤ n
  l : ls.length ≤ n
  s : ∀ x ∈ ls, x.size ≤ 9223372036854775807
theorem Ok.mono {n m : Nat} {is : List Int} {ls : List ByteArray} (h : Ok n is ls) (hm : n ≤ m) : Ok m is ls := ⟨Nat.le_trans h.i hm, Nat.le_trans h.l hm, h.s⟩
theorem Ok.can {n : Nat} {is : List Int} {ls : List ByteArray} (h : Ok n is ls) : Ok n (canI is) (canS is ls) := ⟨Nat.le_trans (canI_length is) h.i, Nat.le_trans (canS_length is ls) h.l, canS_size is ls⟩
theorem Ok.app {n m : Nat} {is is' : List Int} {ls ls' : List ByteArray} (h : Ok n is ls) (h' : Ok m is' ls') : Ok (n + m) (is ++ is') (ls ++ ls') :=
  ⟨by rw [List.length_append]; have := h.i; have := h'.i; omega, by rw [List.length_append]; have := h.l; have := h'.l; omega, fun x hx => by
    rcases List.mem_append.1 hx with hx | hx
    · exact h.s x hx
    · exact h'.s x hx⟩
section
variable {n m : Nat} {is is' : List Int} {ls ls' : List ByteArray} {v v' : Value} {w : World}
theorem plusC (h : Ok n is ls) (h' : Ok m is' ls') (hn : n ≤ 1000) (hm : m ≤ 1000) (hT : TabOk w) (hv : RdW w v is ls) (hv' : RdW w v' is' ls') :
    Calls Tryz.prog 21 #[v, v'] w fun e w' => ∃ r, e = .returned r ∧ RdW w' r (canI (is ++ is')) (canS (is ++ is') (ls ++ ls')) ∧ Below w.heap.size w w' :=
  plus_any is ls is' ls' (Nat.le_trans h.i hn) (Nat.le_trans h.l hn) (Nat.le_trans h'.i hm) (Nat.le_trans h'.l hm) h.s h'.s v v' w hT hv hv'
theorem minusC (h : Ok n is ls) (h' : Ok m is' ls') (hn : n ≤ 1000) (hm : m ≤ 1000) (hT : TabOk w) (hv : RdW w v is ls) (hv' : RdW w v' is' ls') :
    Calls Tryz.prog 22 #[v, v'] w fun e w' => ∃ r, e = .returned r ∧ RdW w' r (canI ((canI is).filter fun n => !hasB n (canI is'))) (canS ((canI is).filter fun n => !hasB n (canI is')) (((canN is ls).filter fun n => !hasB n.1 (canS is' ls')).map fun n : Nm => n.1)) ∧ Below w.heap.size w w' :=
  minus_any is ls is' ls' (Nat.le_trans h.i hn) (Nat.le_trans h.l hn) (Nat.le_trans h'.i hm) (Nat.le_trans h'.l hm) h.s h'.s v v' w hT hv hv'
theorem equalC (h : Ok n is ls) (h' : Ok m is' ls') (hn : n ≤ 1000) (hm : m ≤ 1000) (hT : TabOk w) (hv : RdW w v is ls) (hv' : RdW w v' is' ls') :
    Calls Tryz.prog 24 #[v, v'] w fun e w' => e = .returned (.bool (decide (canI is = canI is') && decide (canS is ls = canS is' ls'))) ∧ Below w.heap.size w w' :=
  equalW_any is ls is' ls' (Nat.le_trans h.i hn) (Nat.le_trans h.l hn) (Nat.le_trans h'.i hm) (Nat.le_trans h'.l hm) h.s h'.s v v' w hT hv hv'
theorem isCanC (h : Ok n is ls) (hn : n ≤ 1000) (hT : TabOk w) (hv : RdW w v is ls) :
    Calls Tryz.prog 23 #[v] w fun e w' => e = .returned (.bool (decide (is = canI is) && decide (ls = canS is ls))) ∧ Below w.heap.size w w' :=
  isCanonical_any is ls (Nat.le_trans h.i hn) (Nat.le_trans h.l hn) h.s v w hT hv
theorem emptyC (h : Ok n is ls) (hn : n ≤ 1000) (hT : TabOk w) (hv : RdW w v is ls) :
    Calls Tryz.prog 14 #[v] w fun e w' => e = .returned (.bool (decide (canI is = []) && decide (canS is ls = []))) ∧ Below w.heap.size w w' :=
  empty_any is ls (by have := h.i; omega) (by have := h.l; omega) h.s v w hT hv
end
/-- A slice that reads goes on reading while an empty box is written. -/
theorem Rd.box {α : Type} {enc : α → Value} {w w' : World} {v : Value} {l : List α} {g : Nat} (h : Rd enc w v l) (hg : w.heap[g]? = some emptyBox) (he : ∀ y, enc y ≠ .slice none 0 0) (hk : ∀ k, k ≠ g → w'.heap[k]? = w.heap[k]?) : Rd enc w' v l := by
  rcases h with h | ⟨h0, b, off, c, e, h1, h2, h3⟩
  · exact .inl h
  · refine .inr ⟨h0, b, off, c, e, h1, h2, fun j hj => ?_⟩
    have hne : b ≠ g := by
      intro hbg
      have := h3 j hj
      subst hbg
      simp only [World.cell?, hg, emptyBox] at this
      match ho : off + j, this with
      | 0, this => simp at this; exact he _ this.symm
      | 1, this => simp at this; exact he _ this.symm
      | (n + 2), this => simp at this
    exact (World.cell?_of_block (w := w) (a := ⟨b, off + j, none⟩) (hk b hne)).trans (h3 j hj)
end Go.Proofs.YtcbgngkalplafaaGreatDoor
/- The drawn regions of ScriptSets, the tests of the rounds. -/
namespace Go.Proofs.YtcbgngkalplafaaGreatDoor
open Go.RowKit Go.Shelf Lin

noncomputable def ops9 : Array Oper := ((Tryz.f4.body).bind (getRegion 9)).getD #[]
theorem q9_0 : OpQ ops9 0 none (some 61) (.fieldAddr 29 (.tmp 8) 0) [] := ⟨_, rfl, rfl, rfl, rfl, rfl⟩
theorem q9_1 : OpQ ops9 1 none (some 62) (.load 26 (.tmp 61)) [0] := ⟨_, rfl, rfl, rfl, rfl, rfl⟩
theorem q9_2 : OpQ ops9 2 none (some 63) (.fieldAddr 29 (.tmp 7) 0) [] := ⟨_, rfl, rfl, rfl, rfl, rfl⟩
theorem q9_3 : OpQ ops9 3 none (some 64) (.load 26 (.tmp 63)) [2] := ⟨_, rfl, rfl, rfl, rfl, rfl⟩
theorem q9_4 : OpQ ops9 4 none (some 65) (.move (.tmp 11)) [] := ⟨_, rfl, rfl, rfl, rfl, rfl⟩
theorem q9_5 : OpQ ops9 5 none (some 66) (.indexAddr 26 (.tmp 64) (.tmp 65)) [3, 4] := ⟨_, rfl, rfl, rfl, rfl, rfl⟩
theorem q9_6 : OpQ ops9 6 none (some 67) (.load 3 (.tmp 66)) [5] := ⟨_, rfl, rfl, rfl, rfl, rfl⟩
theorem q9_7 : OpQ ops9 7 none (some 68) (.call { callee := .value (.func 16), args := #[.tmp 62, .tmp 67], argTypes := #[26, 3] }) [1, 6] := ⟨_, rfl, rfl, rfl, rfl, rfl⟩
theorem q9_8 : OpQ ops9 8 none (some 69) (.unOp .not 4 (.tmp 68)) [7] := ⟨_, rfl, rfl, rfl, rfl, rfl⟩
theorem size9 : ops9.size = 9 := rfl
theorem back9 : edgesBack ops9 = true := by kernel_rfl
def D9 : List Nat := [61, 62, 63, 64, 65, 66, 67, 68, 69]
def tb9 (gx gy bk off n c k : Nat) (Y1 : Value) (z : Int) (t : Bool) : Nat → As := fun s => match s with | 61 => .val (.pointer (some ⟨gy, 0, none⟩)) | 62 => .val (Y1) | 63 => .val (.pointer (some ⟨gx, 0, none⟩)) | 64 => .val (.slice (some ⟨bk, off, none⟩) n c) | 65 => .val (.int .i64 k) | 66 => .val (.pointer (some ⟨bk, off + k, none⟩)) | 67 => .val (.int .i64 z) | 68 => .val (.bool t) | 69 => .val (.bool (!t)) | _ => .any

set_option maxRecDepth 100000 in
theorem region9 {Q : Exit → Act → World → Prop} {a0 : Act} {W0 : World} {gx gy bk off n c k : Nat} {X2 Y1 Y2 : Value} {xi yi : List Int} {xn yn : List ByteArray} {z : Int} {t : Bool} (hsz : a0.tmps.size = 199) (e7 : a0.eval (.tmp 7) = .pointer (some ⟨gx, 0, none⟩)) (e8 : a0.eval (.tmp 8) = .pointer (some ⟨gy, 0, none⟩)) (e11 : a0.eval (.tmp 11) = .int .i64 k)
    (hX : BxV W0 gx (.slice (some ⟨bk, off, none⟩) n c) X2 xi xn) (hY : BxV W0 gy Y1 Y2 yi yn) (hkn : k < n) (hc : W0.cell? ⟨bk, off + k, none⟩ = some (.int .i64 z))
    (ht : ∀ u w, Rd (Value.int .i64) w u yi → Calls Tryz.prog 16 #[u, .int .i64 z] w fun e w' => e = .returned (.bool t) ∧ Below w.heap.size w w')
    (hQ : ∀ (u : Nat → Value) (w : World), Below W0.heap.size W0 w → u 69 = .bool (!t) → Q .normal (laid a0 u D9) w) : (Code.region 9 ops9 true).wp Tryz.prog Q a0 W0 := by
  have hlt : bk < W0.heap.size := World.block_lt_of_cell? W0 _ hc
  refine region_as 9 D9 (tb9 gx gy bk off n c k Y1 z t) mixed back9 (by rw [size9]; decide) (waits_none (by rw [size9]; decide)) rfl (by kernel_rfl) (by decide) (by rw [hsz]; decide) ?_ ?_
  · have hs : ∀ a, Frm a0 D9 a → ∀ k, k ∉ D9 → a.eval (.tmp k) = a0.eval (.tmp k) := fun a h k hk => h.eval hk
    have st0 : AsStep Tryz.prog ops9 Q a0 W0 D9 (tb9 gx gy bk off n c k Y1 z t) 0 := by
      refine as_step q9_0 rfl ?_
      intro a w o hop hf hb hd
      have h8 : a.eval (.tmp 8) = .pointer (some ⟨gy, 0, none⟩) := (hs a hf 8 (by decide)).trans e8
      exact ow_fieldAddr0 hop h8 (ask0 rfl rfl)
    have st1 : AsStep Tryz.prog ops9 Q a0 W0 D9 (tb9 gx gy bk off n c k Y1 z t) 1 := by
      refine as_step q9_1 rfl ?_
      intro a w o hop hf hb hd
      have h61 : a.eval (.tmp 61) = (.pointer (some ⟨gy, 0, none⟩)) := hd 61 (by decide)
      exact ow_load26 hop h61 (hY.below hb).c0 (ask0 rfl rfl)
    have st2 : AsStep Tryz.prog ops9 Q a0 W0 D9 (tb9 gx gy bk off n c k Y1 z t) 2 := by
      refine as_step q9_2 rfl ?_
      intro a w o hop hf hb hd
      have h7 : a.eval (.tmp 7) = .pointer (some ⟨gx, 0, none⟩) := (hs a hf 7 (by decide)).trans e7
      exact ow_fieldAddr0 hop h7 (ask0 rfl rfl)
    have st3 : AsStep Tryz.prog ops9 Q a0 W0 D9 (tb9 gx gy bk off n c k Y1 z t) 3 := by
      refine as_step q9_3 rfl ?_
      intro a w o hop hf hb hd
      have h63 : a.eval (.tmp 63) = (.pointer (some ⟨gx, 0, none⟩)) := hd 63 (by decide)
      exact ow_load26 hop h63 (hX.below hb).c0 (ask0 rfl rfl)
    have st4 : AsStep Tryz.prog ops9 Q a0 W0 D9 (tb9 gx gy bk off n c k Y1 z t) 4 := by
      refine as_step q9_4 rfl ?_
      intro a w o hop hf hb hd
      have h11 : a.eval (.tmp 11) = .int .i64 k := (hs a hf 11 (by decide)).trans e11
      exact ow_move hop h11 (ask0 rfl rfl)
    have st5 : AsStep Tryz.prog ops9 Q a0 W0 D9 (tb9 gx gy bk off n c k Y1 z t) 5 := by
      refine as_step q9_5 rfl ?_
      intro a w o hop hf hb hd
      have h64 : a.eval (.tmp 64) = (.slice (some ⟨bk, off, none⟩) n c) := hd 64 (by decide)
      have h65 : a.eval (.tmp 65) = (.int .i64 k) := hd 65 (by decide)
      exact ow_index26 hop h64 h65 hkn (ask0 rfl rfl)
    have st6 : AsStep Tryz.prog ops9 Q a0 W0 D9 (tb9 gx gy bk off n c k Y1 z t) 6 := by
      refine as_step q9_6 rfl ?_
      intro a w o hop hf hb hd
      have h66 : a.eval (.tmp 66) = (.pointer (some ⟨bk, off + k, none⟩)) := hd 66 (by decide)
      exact ow_load3 hop h66 ((hb.cell (p := ⟨bk, off + k, none⟩) hlt).trans hc) (ask0 rfl rfl)
    have st7 : AsStep Tryz.prog ops9 Q a0 W0 D9 (tb9 gx gy bk off n c k Y1 z t) 7 := by
      refine as_step q9_7 rfl ?_
      intro a w o hop hf hb hd
      have h62 : a.eval (.tmp 62) = (Y1) := hd 62 (by decide)
      have h67 : a.eval (.tmp 67) = (.int .i64 z) := hd 67 (by decide)
      refine ow_call2 hop cf16 (R := fun e w' => e = .returned (.bool t) ∧ Below w.heap.size w w') (by rw [h62, h67]; exact ht Y1 w (hY.below hb).ru) ?_
      rintro e w' ⟨rfl, hb'⟩
      exact ⟨_, rfl, ask rfl rfl hb'⟩
    have st8 : AsStep Tryz.prog ops9 Q a0 W0 D9 (tb9 gx gy bk off n c k Y1 z t) 8 := by
      refine as_step q9_8 rfl ?_
      intro a w o hop hf hb hd
      have h68 : a.eval (.tmp 68) = (.bool t) := hd 68 (by decide)
      exact ow_not hop h68 (ask0 rfl rfl)
    exact lt_succ_of (lt_succ_of (lt_succ_of (lt_succ_of (lt_succ_of (lt_succ_of (lt_succ_of (lt_succ_of (lt_succ_of (lt_zero_of) st0) st1) st2) st3) st4) st5) st6) st7) st8
  · intro a w hf hb hall _
    rw [hf.laid (by rw [hsz]; decide)]
    exact hQ _ w hb (hall 69 (by decide))

noncomputable def ops14 : Array Oper := ((Tryz.f4.body).bind (getRegion 14)).getD #[]
theorem q14_0 : OpQ ops14 0 none (some 87) (.fieldAddr 29 (.tmp 8) 1) [] := ⟨_, rfl, rfl, rfl, rfl, rfl⟩
theorem q14_1 : OpQ ops14 1 none (some 88) (.load 27 (.tmp 87)) [0] := ⟨_, rfl, rfl, rfl, rfl, rfl⟩
theorem q14_2 : OpQ ops14 2 none (some 89) (.fieldAddr 29 (.tmp 7) 1) [] := ⟨_, rfl, rfl, rfl, rfl, rfl⟩
theorem q14_3 : OpQ ops14 3 none (some 90) (.load 27 (.tmp 89)) [2] := ⟨_, rfl, rfl, rfl, rfl, rfl⟩
theorem q14_4 : OpQ ops14 4 none (some 91) (.move (.tmp 12)) [] := ⟨_, rfl, rfl, rfl, rfl, rfl⟩
theorem q14_5 : OpQ ops14 5 none (some 92) (.indexAddr 27 (.tmp 90) (.tmp 91)) [3, 4] := ⟨_, rfl, rfl, rfl, rfl, rfl⟩
theorem q14_6 : OpQ ops14 6 none (some 93) (.load 47 (.tmp 92)) [5] := ⟨_, rfl, rfl, rfl, rfl, rfl⟩
theorem q14_7 : OpQ ops14 7 none (some 94) (.call { callee := .value (.func 20), args := #[.tmp 88, .tmp 93], argTypes := #[27, 47] }) [1, 6] := ⟨_, rfl, rfl, rfl, rfl, rfl⟩
theorem q14_8 : OpQ ops14 8 none (some 95) (.unOp .not 4 (.tmp 94)) [7] := ⟨_, rfl, rfl, rfl, rfl, rfl⟩
theorem size14 : ops14.size = 9 := rfl
theorem back14 : edgesBack ops14 = true := by kernel_rfl
def D14 : List Nat := [87, 88, 89, 90, 91, 92, 93, 94, 95]
def tb14 (gx gy bk off n c k : Nat) (Y2 : Value) (z : ByteArray) (t : Bool) : Nat → As := fun s => match s with | 87 => .val (.pointer (some ⟨gy, 1, none⟩)) | 88 => .val (Y2) | 89 => .val (.pointer (some ⟨gx, 1, none⟩)) | 90 => .val (.slice (some ⟨bk, off, none⟩) n c) | 91 => .val (.int .i64 k) | 92 => .val (.pointer (some ⟨bk, off + k, none⟩)) | 93 => .val (.string z) | 94 => .val (.bool t) | 95 => .val (.bool (!t)) | _ => .any

set_option maxRecDepth 100000 in
theorem region14 {Q : Exit → Act → World → Prop} {a0 : Act} {W0 : World} {gx gy bk off n c k : Nat} {X1 Y1 Y2 : Value} {xi yi : List Int} {xn yn : List ByteArray} {z : ByteArray} {t : Bool} (hsz : a0.tmps.size = 199) (e7 : a0.eval (.tmp 7) = .pointer (some ⟨gx, 0, none⟩)) (e8 : a0.eval (.tmp 8) = .pointer (some ⟨gy, 0, none⟩)) (e12 : a0.eval (.tmp 12) = .int .i64 k)
    (hX : BxV W0 gx X1 (.slice (some ⟨bk, off, none⟩) n c) xi xn) (hY : BxV W0 gy Y1 Y2 yi yn) (hkn : k < n) (hc : W0.cell? ⟨bk, off + k, none⟩ = some (.string z))
    (ht : ∀ u w, Rd (Value.string) w u yn → Calls Tryz.prog 20 #[u, .string z] w fun e w' => e = .returned (.bool t) ∧ Below w.heap.size w w')
    (hQ : ∀ (u : Nat → Value) (w : World), Below W0.heap.size W0 w → u 95 = .bool (!t) → Q .normal (laid a0 u D14) w) : (Code.region 14 ops14 true).wp Tryz.prog Q a0 W0 := by
  have hlt : bk < W0.heap.size := World.block_lt_of_cell? W0 _ hc
  refine region_as 9 D14 (tb14 gx gy bk off n c k Y2 z t) mixed back14 (by rw [size14]; decide) (waits_none (by rw [size14]; decide)) rfl (by kernel_rfl) (by decide) (by rw [hsz]; decide) ?_ ?_
  · have hs : ∀ a, Frm a0 D14 a → ∀ k, k ∉ D14 → a.eval (.tmp k) = a0.eval (.tmp k) := fun a h k hk => h.eval hk
    have st0 : AsStep Tryz.prog ops14 Q a0 W0 D14 (tb14 gx gy bk off n c k Y2 z t) 0 := by
      refine as_step q14_0 rfl ?_
      intro a w o hop hf hb hd
      have h8 : a.eval (.tmp 8) = .pointer (some ⟨gy, 0, none⟩) := (hs a hf 8 (by decide)).trans e8
      exact ow_fieldAddr1 hop h8 (ask0 rfl rfl)
    have st1 : AsStep Tryz.prog ops14 Q a0 W0 D14 (tb14 gx gy bk off n c k Y2 z t) 1 := by
      refine as_step q14_1 rfl ?_
      intro a w o hop hf hb hd
      have h87 : a.eval (.tmp 87) = (.pointer (some ⟨gy, 1, none⟩)) := hd 87 (by decide)
      exact ow_load27 hop h87 (hY.below hb).c1 (ask0 rfl rfl)
    have st2 : AsStep Tryz.prog ops14 Q a0 W0 D14 (tb14 gx gy bk off n c k Y2 z t) 2 := by
      refine as_step q14_2 rfl ?_
      intro a w o hop hf hb hd
      have h7 : a.eval (.tmp 7) = .pointer (some ⟨gx, 0, none⟩) := (hs a hf 7 (by decide)).trans e7
      exact ow_fieldAddr1 hop h7 (ask0 rfl rfl)
    have st3 : AsStep Tryz.prog ops14 Q a0 W0 D14 (tb14 gx gy bk off n c k Y2 z t) 3 := by
      refine as_step q14_3 rfl ?_
      intro a w o hop hf hb hd
      have h89 : a.eval (.tmp 89) = (.pointer (some ⟨gx, 1, none⟩)) := hd 89 (by decide)
      exact ow_load27 hop h89 (hX.below hb).c1 (ask0 rfl rfl)
    have st4 : AsStep Tryz.prog ops14 Q a0 W0 D14 (tb14 gx gy bk off n c k Y2 z t) 4 := by
      refine as_step q14_4 rfl ?_
      intro a w o hop hf hb hd
      have h12 : a.eval (.tmp 12) = .int .i64 k := (hs a hf 12 (by decide)).trans e12
      exact ow_move hop h12 (ask0 rfl rfl)
    have st5 : AsStep Tryz.prog ops14 Q a0 W0 D14 (tb14 gx gy bk off n c k Y2 z t) 5 := by
      refine as_step q14_5 rfl ?_
      intro a w o hop hf hb hd
      have h90 : a.eval (.tmp 90) = (.slice (some ⟨bk, off, none⟩) n c) := hd 90 (by decide)
      have h91 : a.eval (.tmp 91) = (.int .i64 k) := hd 91 (by decide)
      exact ow_index27 hop h90 h91 hkn (ask0 rfl rfl)
    have st6 : AsStep Tryz.prog ops14 Q a0 W0 D14 (tb14 gx gy bk off n c k Y2 z t) 6 := by
      refine as_step q14_6 rfl ?_
      intro a w o hop hf hb hd
      have h92 : a.eval (.tmp 92) = (.pointer (some ⟨bk, off + k, none⟩)) := hd 92 (by decide)
      exact ow_load47 hop h92 ((hb.cell (p := ⟨bk, off + k, none⟩) hlt).trans hc) (ask0 rfl rfl)
    have st7 : AsStep Tryz.prog ops14 Q a0 W0 D14 (tb14 gx gy bk off n c k Y2 z t) 7 := by
      refine as_step q14_7 rfl ?_
      intro a w o hop hf hb hd
      have h88 : a.eval (.tmp 88) = (Y2) := hd 88 (by decide)
      have h93 : a.eval (.tmp 93) = (.string z) := hd 93 (by decide)
      refine ow_call2 hop cf20 (R := fun e w' => e = .returned (.bool t) ∧ Below w.heap.size w w') (by rw [h88, h93]; exact ht Y2 w (hY.below hb).rx) ?_
      rintro e w' ⟨rfl, hb'⟩
      exact ⟨_, rfl, ask rfl rfl hb'⟩
    have st8 : AsStep Tryz.prog ops14 Q a0 W0 D14 (tb14 gx gy bk off n c k Y2 z t) 8 := by
      refine as_step q14_8 rfl ?_
      intro a w o hop hf hb hd
      have h94 : a.eval (.tmp 94) = (.bool t) := hd 94 (by decide)
      exact ow_not hop h94 (ask0 rfl rfl)
    exact lt_succ_of (lt_succ_of (lt_succ_of (lt_succ_of (lt_succ_of (lt_succ_of (lt_succ_of (lt_succ_of (lt_succ_of (lt_zero_of) st0) st1) st2) st3) st4) st5) st6) st7) st8
  · intro a w hf hb hall _
    rw [hf.laid (by rw [hsz]; decide)]
    exact hQ _ w hb (hall 95 (by decide))

end Go.Proofs.YtcbgngkalplafaaGreatDoor
/- The drawn regions of ScriptSets, one more in a field of rest. -/
namespace Go.Proofs.YtcbgngkalplafaaGreatDoor
open Go.RowKit Go.Shelf Lin

noncomputable def ops10 : Array Oper := ((Tryz.f4.body).bind (getRegion 10)).getD #[]
theorem q10_0 : OpQ ops10 0 none (some 70) (.fieldAddr 29 (.tmp 10) 0) [] := ⟨_, rfl, rfl, rfl, rfl, rfl⟩
theorem q10_1 : OpQ ops10 1 none (some 71) (.load 26 (.tmp 70)) [0] := ⟨_, rfl, rfl, rfl, rfl, rfl⟩
theorem q10_2 : OpQ ops10 2 none (some 72) (.fieldAddr 29 (.tmp 7) 0) [] := ⟨_, rfl, rfl, rfl, rfl, rfl⟩
theorem q10_3 : OpQ ops10 3 none (some 73) (.load 26 (.tmp 72)) [2] := ⟨_, rfl, rfl, rfl, rfl, rfl⟩
theorem q10_4 : OpQ ops10 4 none (some 74) (.move (.tmp 11)) [] := ⟨_, rfl, rfl, rfl, rfl, rfl⟩
theorem q10_5 : OpQ ops10 5 none (some 75) (.indexAddr 26 (.tmp 73) (.tmp 74)) [3, 4] := ⟨_, rfl, rfl, rfl, rfl, rfl⟩
theorem q10_6 : OpQ ops10 6 none (some 76) (.load 3 (.tmp 75)) [5] := ⟨_, rfl, rfl, rfl, rfl, rfl⟩
theorem q10_7 : OpQ ops10 7 none (some 77) (.buildSlice 26 1 #[(0, .tmp 76)]) [6] := ⟨_, rfl, rfl, rfl, rfl, rfl⟩
theorem q10_8 : OpQ ops10 8 none (some 78) (.call { callee := .builtin .append, args := #[.tmp 71, .tmp 77], argTypes := #[26, 26] }) [1, 7] := ⟨_, rfl, rfl, rfl, rfl, rfl⟩
theorem q10_9 : OpQ ops10 9 none (some 79) (.fieldAddr 29 (.tmp 10) 0) [0, 1, 2, 3, 4, 5, 6, 7, 8] := ⟨_, rfl, rfl, rfl, rfl, rfl⟩
theorem q10_10 : OpQ ops10 10 none none (.store 26 (.tmp 79) (.tmp 78)) [9, 8, 8, 0, 1, 2, 3, 4, 5, 6, 7, 8] := ⟨_, rfl, rfl, rfl, rfl, rfl⟩
theorem size10 : ops10.size = 11 := rfl
theorem back10 : edgesBack ops10 = true := by kernel_rfl
def D10 : List Nat := [70, 71, 72, 73, 74, 75, 76, 77]
def tb10 (gx gr bk off n c k n0 : Nat) (V1 : Value) (z : Int) : Nat → As := fun s => match s with | 70 => .val (.pointer (some ⟨gr, 0, none⟩)) | 71 => .val (V1) | 72 => .val (.pointer (some ⟨gx, 0, none⟩)) | 73 => .val (.slice (some ⟨bk, off, none⟩) n c) | 74 => .val (.int .i64 k) | 75 => .val (.pointer (some ⟨bk, off + k, none⟩)) | 76 => .val (.int .i64 z) | 77 => .one n0 (.int .i64 z) 3 | _ => .any

set_option maxRecDepth 100000 in
theorem region10 {Q : Exit → Act → World → Prop} {a0 : Act} {W0 : World} {gx gr bk off n c k n0 nn base : Nat} {X2 V1 V2 : Value} {xi : List Int} {xn : List ByteArray} {z : Int} {xs : List Value} (hsz : a0.tmps.size = 199) (e7 : a0.eval (.tmp 7) = .pointer (some ⟨gx, 0, none⟩)) (e10 : a0.eval (.tmp 10) = .pointer (some ⟨gr, 0, none⟩)) (e11 : a0.eval (.tmp 11) = .int .i64 k)
    (hX : BxV W0 gx (.slice (some ⟨bk, off, none⟩) n c) X2 xi xn) (hR : W0.heap[gr]? = some (.cells #[V1, V2] 29)) (hkn : k < n) (hc : W0.cell? ⟨bk, off + k, none⟩ = some (.int .i64 z)) (hn0 : n0 ≤ W0.heap.size) (hgb : gr < base) (hbase : base ≤ W0.heap.size)
    (own : W0.ownsRow base 3 1 V1 nn xs) (hnn : nn + 1 ≤ 1000000)
    (hQ : ∀ (u : Nat → Value) (w : World) (V : Value), w.ownsRow base 3 1 V (nn + 1) (xs ++ [.int .i64 z]) → w.heap[gr]? = some (.cells #[V, V2] 29) → Rest gr base W0 w → Below gr W0 w → Q .normal (laid a0 u (D10 ++ [78, 79])) w) : (Code.region 10 ops10 true).wp Tryz.prog Q a0 W0 := by
  have hlt : bk < W0.heap.size := World.block_lt_of_cell? W0 _ hc
  have hgr : gr < W0.heap.size := lt_of_heap hR
  obtain ⟨i3, j1, j2, j3, j4⟩ := info_parts Tryz_info3
  refine region_as 8 D10 (tb10 gx gr bk off n c k n0 V1 z) mixed back10 (by rw [size10]; decide) (waits_of (n := 7) (by kernel_rfl)) rfl (by kernel_rfl) (by decide) (by rw [hsz]; decide) ?_ ?_
  · have hs : ∀ a, Frm a0 D10 a → ∀ k, k ∉ D10 → a.eval (.tmp k) = a0.eval (.tmp k) := fun a h k hk => h.eval hk
    have st0 : AsStep Tryz.prog ops10 Q a0 W0 D10 (tb10 gx gr bk off n c k n0 V1 z) 0 := by
      refine as_step q10_0 rfl ?_
      intro a w o hop hf hb hd
      have h10 : a.eval (.tmp 10) = .pointer (some ⟨gr, 0, none⟩) := (hs a hf 10 (by decide)).trans e10
      exact ow_fieldAddr0 hop h10 (ask0 rfl rfl)
    have st1 : AsStep Tryz.prog ops10 Q a0 W0 D10 (tb10 gx gr bk off n c k n0 V1 z) 1 := by
      refine as_step q10_1 rfl ?_
      intro a w o hop hf hb hd
      have h70 : a.eval (.tmp 70) = (.pointer (some ⟨gr, 0, none⟩)) := hd 70 (by decide)
      exact ow_load26 hop h70 (cell_of_heap ((hb.block gr hgr).trans hR) 0 _ rfl) (ask0 rfl rfl)
    have st2 : AsStep Tryz.prog ops10 Q a0 W0 D10 (tb10 gx gr bk off n c k n0 V1 z) 2 := by
      refine as_step q10_2 rfl ?_
      intro a w o hop hf hb hd
      have h7 : a.eval (.tmp 7) = .pointer (some ⟨gx, 0, none⟩) := (hs a hf 7 (by decide)).trans e7
      exact ow_fieldAddr0 hop h7 (ask0 rfl rfl)
    have st3 : AsStep Tryz.prog ops10 Q a0 W0 D10 (tb10 gx gr bk off n c k n0 V1 z) 3 := by
      refine as_step q10_3 rfl ?_
      intro a w o hop hf hb hd
      have h72 : a.eval (.tmp 72) = (.pointer (some ⟨gx, 0, none⟩)) := hd 72 (by decide)
      exact ow_load26 hop h72 (hX.below hb).c0 (ask0 rfl rfl)
    have st4 : AsStep Tryz.prog ops10 Q a0 W0 D10 (tb10 gx gr bk off n c k n0 V1 z) 4 := by
      refine as_step q10_4 rfl ?_
      intro a w o hop hf hb hd
      have h11 : a.eval (.tmp 11) = .int .i64 k := (hs a hf 11 (by decide)).trans e11
      exact ow_move hop h11 (ask0 rfl rfl)
    have st5 : AsStep Tryz.prog ops10 Q a0 W0 D10 (tb10 gx gr bk off n c k n0 V1 z) 5 := by
      refine as_step q10_5 rfl ?_
      intro a w o hop hf hb hd
      have h73 : a.eval (.tmp 73) = (.slice (some ⟨bk, off, none⟩) n c) := hd 73 (by decide)
      have h74 : a.eval (.tmp 74) = (.int .i64 k) := hd 74 (by decide)
      exact ow_index26 hop h73 h74 hkn (ask0 rfl rfl)
    have st6 : AsStep Tryz.prog ops10 Q a0 W0 D10 (tb10 gx gr bk off n c k n0 V1 z) 6 := by
      refine as_step q10_6 rfl ?_
      intro a w o hop hf hb hd
      have h75 : a.eval (.tmp 75) = (.pointer (some ⟨bk, off + k, none⟩)) := hd 75 (by decide)
      exact ow_load3 hop h75 ((hb.cell (p := ⟨bk, off + k, none⟩) hlt).trans hc) (ask0 rfl rfl)
    have st7 : AsStep Tryz.prog ops10 Q a0 W0 D10 (tb10 gx gr bk off n c k n0 V1 z) 7 := by
      refine as_step q10_7 rfl ?_
      intro a w o hop hf hb hd
      have h76 : a.eval (.tmp 76) = (.int .i64 z) := hd 76 (by decide)
      exact ow_one26 hop h76 (asko rfl (Nat.le_trans hn0 hb.size))
    exact lt_succ_of (lt_succ_of (lt_succ_of (lt_succ_of (lt_succ_of (lt_succ_of (lt_succ_of (lt_succ_of (lt_zero_of) st0) st1) st2) st3) st4) st5) st6) st7
  · intro a w hf hb hall _
    have h71 : a.eval (.tmp 71) = V1 := hall 71 (by decide)
    obtain ⟨g, h77, hg, hh⟩ : (As.one n0 (.int .i64 z) 3).holds (a.eval (.tmp 77)) w := hall 77 (by decide)
    have hs : a.tmps.size = 199 := hf.sz.trans hsz
    have e10' : a.eval (.tmp 10) = .pointer (some ⟨gr, 0, none⟩) := (hf.eval (by decide)).trans e10
    have own' : w.ownsRow base 3 1 V1 nn xs := own_below own hb
    have hrd : Rd (Value.int .i64) w (a.eval (.tmp 77)) [z] := by
      rw [h77]
      refine .inr ⟨by simp, g, 0, 1, rfl, by simp, by decide, fun j hj => ?_⟩
      have : j = 0 := by simpa using hj
      subst this
      exact cell_of_heap hh 0 _ rfl
    show wpOps Tryz.prog ops10 Q [8, 9, 10] a w
    obtain ⟨o8, ho8, hg8, hd8, hop8, -⟩ := q10_8
    refine wpOps_step ho8 hg8 (ow_append (enc := Value.int .i64) _ _ 26 hop8 base 3 i3 (.int .i64 0) 8 Tryz.underlying26 j1 j2 j3 j4 rfl (by decide) V1 nn xs h71 own' (fun _ => rfl) [z] hrd hnn (Nat.le_trans hbase hb.size) ?_)
    intro V w1 hown hgrow hbl hat
    rw [hd8]
    have hR1 : w1.heap[gr]? = some (.cells #[V1, V2] 29) := by
      refine (hgrow.block gr (Nat.lt_of_lt_of_le hgr hb.size) ?_).trans ((hb.block gr hgr).trans hR)
      intro e
      have := (own'.lt gr e.symm).1
      omega
    obtain ⟨VA, vn, vc, rfl⟩ := own_sl hown
    obtain ⟨o9, ho9, hg9, hd9, hop9, -⟩ := q10_9
    refine wpOps_step ho9 hg9 (ow_fieldAddr0 hop9 (x := .tmp 10) (b := gr) ((ev_ne (by decide)).trans e10') ?_)
    rw [hd9]
    obtain ⟨o10, ho10, hg10, hd10, hop10, -⟩ := q10_10
    refine wpOps_step ho10 hg10 (ow_store26 hop10 (ev_same (by simp [Act.put, hs])) ((ev_ne (by decide)).trans (ev_same (by rw [hs]; decide))) (cell_of_heap hR1 0 _ rfl) (frozen_of hR1 0) ?_)
    rw [hd10]
    show Q .normal (((a.put (some 78) (.slice VA vn vc)).put (some 79) (.pointer (some ⟨gr, 0, none⟩))).put none undef) _
    have hrest : Rest gr base W0 (w1.setCell ⟨gr, 0, none⟩ (.slice VA vn vc)) := (((Rest.refl gr base W0).below (below_of hb hbase)).below hbl).set 0 _
    have hf' : Frm a0 (D10 ++ [78, 79]) (((a.put (some 78) (.slice VA vn vc)).put (some 79) (.pointer (some ⟨gr, 0, none⟩)))) := by
      have h0 : Frm a0 (D10 ++ [78, 79]) a := ⟨hf.df, hf.sz, fun k hk => hf.at_ k fun h => hk (List.mem_append_left _ h)⟩
      exact (h0.put (by decide) _).put (by decide) _
    rw [show ((a.put (some 78) (.slice VA vn vc)).put (some 79) (.pointer (some ⟨gr, 0, none⟩))).put none undef = (a.put (some 78) (.slice VA vn vc)).put (some 79) (.pointer (some ⟨gr, 0, none⟩)) from rfl, hf'.laid (by rw [hsz]; decide)]
    exact hQ _ _ (.slice VA vn vc) (ownsRow_setCell_below hown (by show gr < base; omega) _) (heap_set hR1 0 _) hrest (Below.setCell (p := ⟨gr, 0, none⟩) ((below_of hb (show gr ≤ W0.heap.size by omega)).trans (below_of hbl (show gr ≤ base by omega))) (Nat.le_refl _) _)

noncomputable def ops15 : Array Oper := ((Tryz.f4.body).bind (getRegion 15)).getD #[]
theorem q15_0 : OpQ ops15 0 none (some 96) (.fieldAddr 29 (.tmp 10) 1) [] := ⟨_, rfl, rfl, rfl, rfl, rfl⟩
theorem q15_1 : OpQ ops15 1 none (some 97) (.load 27 (.tmp 96)) [0] := ⟨_, rfl, rfl, rfl, rfl, rfl⟩
theorem q15_2 : OpQ ops15 2 none (some 98) (.fieldAddr 29 (.tmp 7) 1) [] := ⟨_, rfl, rfl, rfl, rfl, rfl⟩
theorem q15_3 : OpQ ops15 3 none (some 99) (.load 27 (.tmp 98)) [2] := ⟨_, rfl, rfl, rfl, rfl, rfl⟩
theorem q15_4 : OpQ ops15 4 none (some 100) (.move (.tmp 12)) [] := ⟨_, rfl, rfl, rfl, rfl, rfl⟩
theorem q15_5 : OpQ ops15 5 none (some 101) (.indexAddr 27 (.tmp 99) (.tmp 100)) [3, 4] := ⟨_, rfl, rfl, rfl, rfl, rfl⟩
theorem q15_6 : OpQ ops15 6 none (some 102) (.load 47 (.tmp 101)) [5] := ⟨_, rfl, rfl, rfl, rfl, rfl⟩
theorem q15_7 : OpQ ops15 7 none (some 103) (.buildSlice 27 1 #[(0, .tmp 102)]) [6] := ⟨_, rfl, rfl, rfl, rfl, rfl⟩
theorem q15_8 : OpQ ops15 8 none (some 104) (.call { callee := .builtin .append, args := #[.tmp 97, .tmp 103], argTypes := #[27, 27] }) [1, 7] := ⟨_, rfl, rfl, rfl, rfl, rfl⟩
theorem q15_9 : OpQ ops15 9 none (some 105) (.fieldAddr 29 (.tmp 10) 1) [0, 1, 2, 3, 4, 5, 6, 7, 8] := ⟨_, rfl, rfl, rfl, rfl, rfl⟩
theorem q15_10 : OpQ ops15 10 none none (.store 27 (.tmp 105) (.tmp 104)) [9, 8, 8, 0, 1, 2, 3, 4, 5, 6, 7, 8] := ⟨_, rfl, rfl, rfl, rfl, rfl⟩
theorem size15 : ops15.size = 11 := rfl
theorem back15 : edgesBack ops15 = true := by kernel_rfl
def D15 : List Nat := [96, 97, 98, 99, 100, 101, 102, 103]
def tb15 (gx gr bk off n c k n0 : Nat) (V2 : Value) (z : ByteArray) : Nat → As := fun s => match s with | 96 => .val (.pointer (some ⟨gr, 1, none⟩)) | 97 => .val (V2) | 98 => .val (.pointer (some ⟨gx, 1, none⟩)) | 99 => .val (.slice (some ⟨bk, off, none⟩) n c) | 100 => .val (.int .i64 k) | 101 => .val (.pointer (some ⟨bk, off + k, none⟩)) | 102 => .val (.string z) | 103 => .one n0 (.string z) 47 | _ => .any

set_option maxRecDepth 100000 in
theorem region15 {Q : Exit → Act → World → Prop} {a0 : Act} {W0 : World} {gx gr bk off n c k n0 nn base : Nat} {X1 V1 V2 : Value} {xi : List Int} {xn : List ByteArray} {z : ByteArray} {xs : List Value} (hsz : a0.tmps.size = 199) (e7 : a0.eval (.tmp 7) = .pointer (some ⟨gx, 0, none⟩)) (e10 : a0.eval (.tmp 10) = .pointer (some ⟨gr, 0, none⟩)) (e12 : a0.eval (.tmp 12) = .int .i64 k)
    (hX : BxV W0 gx X1 (.slice (some ⟨bk, off, none⟩) n c) xi xn) (hR : W0.heap[gr]? = some (.cells #[V1, V2] 29)) (hkn : k < n) (hc : W0.cell? ⟨bk, off + k, none⟩ = some (.string z)) (hn0 : n0 ≤ W0.heap.size) (hgb : gr < base) (hbase : base ≤ W0.heap.size)
    (own : W0.ownsRow base 47 1 V2 nn xs) (hnn : nn + 1 ≤ 1000000)
    (hQ : ∀ (u : Nat → Value) (w : World) (V : Value), w.ownsRow base 47 1 V (nn + 1) (xs ++ [.string z]) → w.heap[gr]? = some (.cells #[V1, V] 29) → Rest gr base W0 w → Below gr W0 w → Q .normal (laid a0 u (D15 ++ [104, 105])) w) : (Code.region 15 ops15 true).wp Tryz.prog Q a0 W0 := by
  have hlt : bk < W0.heap.size := World.block_lt_of_cell? W0 _ hc
  have hgr : gr < W0.heap.size := lt_of_heap hR
  obtain ⟨i3, j1, j2, j3, j4⟩ := info_parts Tryz_info47
  refine region_as 8 D15 (tb15 gx gr bk off n c k n0 V2 z) mixed back15 (by rw [size15]; decide) (waits_of (n := 7) (by kernel_rfl)) rfl (by kernel_rfl) (by decide) (by rw [hsz]; decide) ?_ ?_
  · have hs : ∀ a, Frm a0 D15 a → ∀ k, k ∉ D15 → a.eval (.tmp k) = a0.eval (.tmp k) := fun a h k hk => h.eval hk
    have st0 : AsStep Tryz.prog ops15 Q a0 W0 D15 (tb15 gx gr bk off n c k n0 V2 z) 0 := by
      refine as_step q15_0 rfl ?_
      intro a w o hop hf hb hd
      have h10 : a.eval (.tmp 10) = .pointer (some ⟨gr, 0, none⟩) := (hs a hf 10 (by decide)).trans e10
      exact ow_fieldAddr1 hop h10 (ask0 rfl rfl)
    have st1 : AsStep Tryz.prog ops15 Q a0 W0 D15 (tb15 gx gr bk off n c k n0 V2 z) 1 := by
      refine as_step q15_1 rfl ?_
      intro a w o hop hf hb hd
      have h96 : a.eval (.tmp 96) = (.pointer (some ⟨gr, 1, none⟩)) := hd 96 (by decide)
      exact ow_load27 hop h96 (cell_of_heap ((hb.block gr hgr).trans hR) 1 _ rfl) (ask0 rfl rfl)
    have st2 : AsStep Tryz.prog ops15 Q a0 W0 D15 (tb15 gx gr bk off n c k n0 V2 z) 2 := by
      refine as_step q15_2 rfl ?_
      intro a w o hop hf hb hd
      have h7 : a.eval (.tmp 7) = .pointer (some ⟨gx, 0, none⟩) := (hs a hf 7 (by decide)).trans e7
      exact ow_fieldAddr1 hop h7 (ask0 rfl rfl)
    have st3 : AsStep Tryz.prog ops15 Q a0 W0 D15 (tb15 gx gr bk off n c k n0 V2 z) 3 := by
      refine as_step q15_3 rfl ?_
      intro a w o hop hf hb hd
      have h98 : a.eval (.tmp 98) = (.pointer (some ⟨gx, 1, none⟩)) := hd 98 (by decide)
      exact ow_load27 hop h98 (hX.below hb).c1 (ask0 rfl rfl)
    have st4 : AsStep Tryz.prog ops15 Q a0 W0 D15 (tb15 gx gr bk off n c k n0 V2 z) 4 := by
      refine as_step q15_4 rfl ?_
      intro a w o hop hf hb hd
      have h12 : a.eval (.tmp 12) = .int .i64 k := (hs a hf 12 (by decide)).trans e12
      exact ow_move hop h12 (ask0 rfl rfl)
    have st5 : AsStep Tryz.prog ops15 Q a0 W0 D15 (tb15 gx gr bk off n c k n0 V2 z) 5 := by
      refine as_step q15_5 rfl ?_
      intro a w o hop hf hb hd
      have h99 : a.eval (.tmp 99) = (.slice (some ⟨bk, off, none⟩) n c) := hd 99 (by decide)
      have h100 : a.eval (.tmp 100) = (.int .i64 k) := hd 100 (by decide)
      exact ow_index27 hop h99 h100 hkn (ask0 rfl rfl)
    have st6 : AsStep Tryz.prog ops15 Q a0 W0 D15 (tb15 gx gr bk off n c k n0 V2 z) 6 := by
      refine as_step q15_6 rfl ?_
      intro a w o hop hf hb hd
      have h101 : a.eval (.tmp 101) = (.pointer (some ⟨bk, off + k, none⟩)) := hd 101 (by decide)
      exact ow_load47 hop h101 ((hb.cell (p := ⟨bk, off + k, none⟩) hlt).trans hc) (ask0 rfl rfl)
    have st7 : AsStep Tryz.prog ops15 Q a0 W0 D15 (tb15 gx gr bk off n c k n0 V2 z) 7 := by
      refine as_step q15_7 rfl ?_
      intro a w o hop hf hb hd
      have h102 : a.eval (.tmp 102) = (.string z) := hd 102 (by decide)
      exact ow_one27 hop h102 (asko rfl (Nat.le_trans hn0 hb.size))
    exact lt_succ_of (lt_succ_of (lt_succ_of (lt_succ_of (lt_succ_of (lt_succ_of (lt_succ_of (lt_succ_of (lt_zero_of) st0) st1) st2) st3) st4) st5) st6) st7
  · intro a w hf hb hall _
    have h97 : a.eval (.tmp 97) = V2 := hall 97 (by decide)
    obtain ⟨g, h103, hg, hh⟩ : (As.one n0 (.string z) 47).holds (a.eval (.tmp 103)) w := hall 103 (by decide)
    have hs : a.tmps.size = 199 := hf.sz.trans hsz
    have e10' : a.eval (.tmp 10) = .pointer (some ⟨gr, 0, none⟩) := (hf.eval (by decide)).trans e10
    have own' : w.ownsRow base 47 1 V2 nn xs := own_below own hb
    have hrd : Rd (Value.string) w (a.eval (.tmp 103)) [z] := by
      rw [h103]
      refine .inr ⟨by simp, g, 0, 1, rfl, by simp, by decide, fun j hj => ?_⟩
      have : j = 0 := by simpa using hj
      subst this
      exact cell_of_heap hh 0 _ rfl
    show wpOps Tryz.prog ops15 Q [8, 9, 10] a w
    obtain ⟨o8, ho8, hg8, hd8, hop8, -⟩ := q15_8
    refine wpOps_step ho8 hg8 (ow_append (enc := Value.string) _ _ 27 hop8 base 47 i3 (.string ByteArray.empty) 16 Tryz.underlying27 j1 j2 j3 j4 rfl (by decide) V2 nn xs h97 own' (fun _ => rfl) [z] hrd hnn (Nat.le_trans hbase hb.size) ?_)
    intro V w1 hown hgrow hbl hat
    rw [hd8]
    have hR1 : w1.heap[gr]? = some (.cells #[V1, V2] 29) := by
      refine (hgrow.block gr (Nat.lt_of_lt_of_le hgr hb.size) ?_).trans ((hb.block gr hgr).trans hR)
      intro e
      have := (own'.lt gr e.symm).1
      omega
    obtain ⟨VA, vn, vc, rfl⟩ := own_sl hown
    obtain ⟨o9, ho9, hg9, hd9, hop9, -⟩ := q15_9
    refine wpOps_step ho9 hg9 (ow_fieldAddr1 hop9 (x := .tmp 10) (b := gr) ((ev_ne (by decide)).trans e10') ?_)
    rw [hd9]
    obtain ⟨o10, ho10, hg10, hd10, hop10, -⟩ := q15_10
    refine wpOps_step ho10 hg10 (ow_store27 hop10 (ev_same (by simp [Act.put, hs])) ((ev_ne (by decide)).trans (ev_same (by rw [hs]; decide))) (cell_of_heap hR1 1 _ rfl) (frozen_of hR1 1) ?_)
    rw [hd10]
    show Q .normal (((a.put (some 104) (.slice VA vn vc)).put (some 105) (.pointer (some ⟨gr, 1, none⟩))).put none undef) _
    have hrest : Rest gr base W0 (w1.setCell ⟨gr, 1, none⟩ (.slice VA vn vc)) := (((Rest.refl gr base W0).below (below_of hb hbase)).below hbl).set 1 _
    have hf' : Frm a0 (D15 ++ [104, 105]) (((a.put (some 104) (.slice VA vn vc)).put (some 105) (.pointer (some ⟨gr, 1, none⟩)))) := by
      have h0 : Frm a0 (D15 ++ [104, 105]) a := ⟨hf.df, hf.sz, fun k hk => hf.at_ k fun h => hk (List.mem_append_left _ h)⟩
      exact (h0.put (by decide) _).put (by decide) _
    rw [show ((a.put (some 104) (.slice VA vn vc)).put (some 105) (.pointer (some ⟨gr, 1, none⟩))).put none undef = (a.put (some 104) (.slice VA vn vc)).put (some 105) (.pointer (some ⟨gr, 1, none⟩)) from rfl, hf'.laid (by rw [hsz]; decide)]
    exact hQ _ _ (.slice VA vn vc) (ownsRow_setCell_below hown (by show gr < base; omega) _) (heap_set hR1 1 _) hrest (Below.setCell (p := ⟨gr, 1, none⟩) ((below_of hb (show gr ≤ W0.heap.size by omega)).trans (below_of hbl (show gr ≤ base by omega))) (Nat.le_refl _) _)

end Go.Proofs.YtcbgngkalplafaaGreatDoor
/- The drawn regions of ScriptSets, two calls into two boxes. -/
namespace Go.Proofs.YtcbgngkalplafaaGreatDoor
open Go.RowKit Go.Shelf Lin


/-- The two stores at the end of such a region. -/
theorem two_stores {ops : Array Oper} {Q : Exit → Act → World → Prop} {i j : Nat} {x1 y1 x2 y2 : Operand} {d1 d2 : List Nat} (q1 : OpQ ops i none none (.store 29 x1 y1) d1) (q2 : OpQ ops j none none (.store 29 x2 y2) d2) {a : Act} {w : World} {g1 g2 : Nat} {is1 is2 : List Int} {ls1 ls2 : List ByteArray}
    (hx1 : a.eval x1 = .pointer (some ⟨g1, 0, none⟩)) (hx2 : a.eval x2 = .pointer (some ⟨g2, 0, none⟩)) (hb1 : w.heap[g1]? = some emptyBox) (hb2 : w.heap[g2]? = some emptyBox) (hy1 : RdW w (a.eval y1) is1 ls1) (hy2 : RdW w (a.eval y2) is2 ls2) (hne : g1 ≠ g2)
    (h : ∀ (w' : World) (A1 A2 B1 B2 : Option Addr) (n1 n2 m1 m2 c1 c2 e1 e2 : Nat), BxV w' g1 (.slice A1 n1 c1) (.slice B1 m1 e1) is1 ls1 → BxV w' g2 (.slice A2 n2 c2) (.slice B2 m2 e2) is2 ls2 → (∀ n0, n0 ≤ g1 → n0 ≤ g2 → Below n0 w w') → Q .normal a w') : wpOps Tryz.prog ops Q [i, j] a w := by
  obtain ⟨u1, v1, hv1, ru1, rv1⟩ := hy1
  obtain ⟨u2, v2, hv2, ru2, rv2⟩ := hy2
  obtain ⟨A1, c1, rfl, -⟩ := ru1.slice
  obtain ⟨B1, e1, rfl, -⟩ := rv1.slice
  obtain ⟨A2, c2, rfl, -⟩ := ru2.slice
  obtain ⟨B2, e2, rfl, -⟩ := rv2.slice
  obtain ⟨o1, ho1, hg1, hd1, hop1, -⟩ := q1
  obtain ⟨o2, ho2, hg2, hd2, hop2, -⟩ := q2
  have i3 : ∀ y : Int, Value.int .i64 y ≠ .slice none 0 0 := fun _ h => nomatch h
  have i47 : ∀ y : ByteArray, Value.string y ≠ .slice none 0 0 := fun _ h => nomatch h
  have k1 : ∀ k, k ≠ g1 → ((w.setCell ⟨g1, 0, none⟩ (.slice A1 is1.length c1)).setCell ⟨g1, 1, none⟩ (.slice B1 ls1.length e1)).heap[k]? = w.heap[k]? := fun k hk => (Below.heap_setCell _ _ _ _ hk).trans (Below.heap_setCell _ _ _ _ hk)
  refine wpOps_step ho1 hg1 (ow_store29 hop1 hx1 hv1 hb1 ?_)
  rw [hd1]
  have b1 := set2 (p := .slice A1 is1.length c1) (q := .slice B1 ls1.length e1) hb1
  have b2 := (k1 g2 (fun e => hne e.symm)).trans hb2
  have r1 := ru1.box hb1 i3 k1
  have r2 := rv1.box hb1 i47 k1
  have r3 := ru2.box hb1 i3 k1
  have r4 := rv2.box hb1 i47 k1
  have w1 : ∀ n0, n0 ≤ g1 → Below n0 w ((w.setCell ⟨g1, 0, none⟩ (.slice A1 is1.length c1)).setCell ⟨g1, 1, none⟩ (.slice B1 ls1.length e1)) := fun n0 hn => ((Below.refl n0 w).setCell (p := ⟨g1, 0, none⟩) hn _).setCell (p := ⟨g1, 1, none⟩) hn _
  generalize (w.setCell ⟨g1, 0, none⟩ (.slice A1 is1.length c1)).setCell ⟨g1, 1, none⟩ (.slice B1 ls1.length e1) = W at b1 b2 r1 r2 r3 r4 w1 ⊢
  have k2 : ∀ k, k ≠ g2 → ((W.setCell ⟨g2, 0, none⟩ (.slice A2 is2.length c2)).setCell ⟨g2, 1, none⟩ (.slice B2 ls2.length e2)).heap[k]? = W.heap[k]? := fun k hk => (Below.heap_setCell _ _ _ _ hk).trans (Below.heap_setCell _ _ _ _ hk)
  refine wpOps_step ho2 hg2 (ow_store29 (a := a.put none undef) hop2 hx2 hv2 b2 ?_)
  rw [hd2]
  refine h _ A1 A2 B1 B2 _ _ _ _ _ _ _ _ ⟨(k2 g1 hne).trans b1, r1.box b2 i3 k2, r2.box b2 i47 k2⟩ ⟨set2 b2, r3.box b2 i3 k2, r4.box b2 i47 k2⟩ ?_
  intro n0 h1 h2
  exact ((w1 n0 h1).setCell (p := ⟨g2, 0, none⟩) h2 _).setCell (p := ⟨g2, 1, none⟩) h2 _
theorem rdw_box {W : World} {g : Nat} {u x : Value} {is : List Int} {ls : List ByteArray} (h : BxV W g u x is ls) : RdW W (.agg #[u, x]) is ls := h.rdw

noncomputable def ops3 : Array Oper := ((Tryz.f4.body).bind (getRegion 3)).getD #[]
theorem q3_0 : OpQ ops3 0 none (some 34) (.load 29 (.tmp 3)) [] := ⟨_, rfl, rfl, rfl, rfl, rfl⟩
theorem q3_1 : OpQ ops3 1 none (some 35) (.call { callee := .value (.func 11), args := #[.tmp 34], argTypes := #[29] }) [0] := ⟨_, rfl, rfl, rfl, rfl, rfl⟩
theorem q3_2 : OpQ ops3 2 none (some 36) (.load 29 (.tmp 4)) [] := ⟨_, rfl, rfl, rfl, rfl, rfl⟩
theorem q3_3 : OpQ ops3 3 none (some 37) (.call { callee := .value (.func 11), args := #[.tmp 36], argTypes := #[29] }) [2, 1] := ⟨_, rfl, rfl, rfl, rfl, rfl⟩
theorem q3_4 : OpQ ops3 4 none (some 7) (.alloc 29) [] := ⟨_, rfl, rfl, rfl, rfl, rfl⟩
theorem q3_5 : OpQ ops3 5 none (some 8) (.alloc 29) [] := ⟨_, rfl, rfl, rfl, rfl, rfl⟩
theorem q3_6 : OpQ ops3 6 none none (.store 29 (.tmp 7) (.tmp 35)) [4, 1, 3, 0, 1, 4, 5] := ⟨_, rfl, rfl, rfl, rfl, rfl⟩
theorem q3_7 : OpQ ops3 7 none none (.store 29 (.tmp 8) (.tmp 37)) [5, 3, 6, 0, 1, 2, 3, 4, 5, 6] := ⟨_, rfl, rfl, rfl, rfl, rfl⟩
theorem size3 : ops3.size = 8 := rfl
theorem back3 : edgesBack ops3 = true := by kernel_rfl
def D3 : List Nat := [34, 35, 36, 37, 7, 8]
def tb3 (n0 : Nat) (U1 X1 U2 X2 : Value) (ia ib : List Int) (la lb : List ByteArray) : Nat → As := fun s => match s with | 34 => .val (.agg #[U1, X1]) | 35 => .rdw (canI ia) (canS ia la) | 36 => .val (.agg #[U2, X2]) | 37 => .rdw (canI ib) (canS ib lb) | 7 => .box n0 | 8 => .box n0 | _ => .any

set_option maxRecDepth 100000 in
theorem region3 {Q : Exit → Act → World → Prop} {a0 : Act} {W0 : World} {ga gb : Nat} {U1 X1 U2 X2 : Value} {ia ib : List Int} {la lb : List ByteArray} (hsz : a0.tmps.size = 199) (e3 : a0.eval (.tmp 3) = .pointer (some ⟨ga, 0, none⟩)) (e4 : a0.eval (.tmp 4) = .pointer (some ⟨gb, 0, none⟩))
    (hA : BxV W0 ga U1 X1 ia la) (hB : BxV W0 gb U2 X2 ib lb) (ka : Ok 30 ia la) (kb : Ok 30 ib lb) (hT : TabOk W0)
    (hQ : ∀ (u : Nat → Value) (w : World) (g1 g2 : Nat) (A1 A2 B1 B2 : Option Addr) (n1 n2 m1 m2 c1 c2 e1 e2 : Nat), Below W0.heap.size W0 w → u 7 = .pointer (some ⟨g1, 0, none⟩) → u 8 = .pointer (some ⟨g2, 0, none⟩) → BxV w g1 (.slice A1 n1 c1) (.slice B1 m1 e1) (canI ia) (canS ia la) → BxV w g2 (.slice A2 n2 c2) (.slice B2 m2 e2) (canI ib) (canS ib lb) → Q .normal (laid a0 u D3) w) : (Code.region 3 ops3 true).wp Tryz.prog Q a0 W0 := by
  refine region_as 6 D3 (tb3 W0.heap.size U1 X1 U2 X2 ia ib la lb) mixed back3 (by rw [size3]; decide) (waits_of (n := 2) (by kernel_rfl)) rfl (by kernel_rfl) (by decide) (by rw [hsz]; decide) ?_ ?_
  · have hs : ∀ a, Frm a0 D3 a → ∀ k, k ∉ D3 → a.eval (.tmp k) = a0.eval (.tmp k) := fun a h k hk => h.eval hk
    have st0 : AsStep Tryz.prog ops3 Q a0 W0 D3 (tb3 W0.heap.size U1 X1 U2 X2 ia ib la lb) 0 := by
      refine as_step q3_0 rfl ?_
      intro a w o hop hf hb hd
      have h3 : a.eval (.tmp 3) = .pointer (some ⟨ga, 0, none⟩) := (hs a hf 3 (by decide)).trans e3
      exact ow_load29 hop h3 (hA.below hb).c0 (hA.below hb).c1 (ask0 rfl rfl)
    have st1 : AsStep Tryz.prog ops3 Q a0 W0 D3 (tb3 W0.heap.size U1 X1 U2 X2 ia ib la lb) 1 := by
      refine as_step q3_1 rfl ?_
      intro a w o hop hf hb hd
      have h34 : a.eval (.tmp 34) = (.agg #[U1, X1]) := hd 34 (by decide)
      refine ow_call1 hop cf11 (R := CanPost w.heap.size ia la w) (by rw [h34]; exact lcanonical_any ia la (by have := ka.i; omega) (by have := ka.l; omega) ka.s _ _ w (hT.below hb) (hA.below hb).ru (hA.below hb).rx) ?_
      intro e w' h
      obtain ⟨v, rfl, hv, hb'⟩ := h.rd
      exact ⟨v, rfl, askw rfl hv hb'⟩
    have st2 : AsStep Tryz.prog ops3 Q a0 W0 D3 (tb3 W0.heap.size U1 X1 U2 X2 ia ib la lb) 2 := by
      refine as_step q3_2 rfl ?_
      intro a w o hop hf hb hd
      have h4 : a.eval (.tmp 4) = .pointer (some ⟨gb, 0, none⟩) := (hs a hf 4 (by decide)).trans e4
      exact ow_load29 hop h4 (hB.below hb).c0 (hB.below hb).c1 (ask0 rfl rfl)
    have st3 : AsStep Tryz.prog ops3 Q a0 W0 D3 (tb3 W0.heap.size U1 X1 U2 X2 ia ib la lb) 3 := by
      refine as_step q3_3 rfl ?_
      intro a w o hop hf hb hd
      have h36 : a.eval (.tmp 36) = (.agg #[U2, X2]) := hd 36 (by decide)
      refine ow_call1 hop cf11 (R := CanPost w.heap.size ib lb w) (by rw [h36]; exact lcanonical_any ib lb (by have := kb.i; omega) (by have := kb.l; omega) kb.s _ _ w (hT.below hb) (hB.below hb).ru (hB.below hb).rx) ?_
      intro e w' h
      obtain ⟨v, rfl, hv, hb'⟩ := h.rd
      exact ⟨v, rfl, askw rfl hv hb'⟩
    have st4 : AsStep Tryz.prog ops3 Q a0 W0 D3 (tb3 W0.heap.size U1 X1 U2 X2 ia ib la lb) 4 := by
      refine as_step q3_4 rfl ?_
      intro a w o hop hf hb hd
      exact ow_alloc29 hop (askb rfl hb.size)
    have st5 : AsStep Tryz.prog ops3 Q a0 W0 D3 (tb3 W0.heap.size U1 X1 U2 X2 ia ib la lb) 5 := by
      refine as_step q3_5 rfl ?_
      intro a w o hop hf hb hd
      exact ow_alloc29 hop (askb rfl hb.size)
    exact lt_succ_of (lt_succ_of (lt_succ_of (lt_succ_of (lt_succ_of (lt_succ_of (lt_zero_of) st0) st1) st2) st3) st4) st5
  · intro a w hf hb hall hdis
    obtain ⟨g1, x1, n1, b1⟩ : (As.box W0.heap.size).holds (a.eval (.tmp 7)) w := hall 7 (by decide)
    obtain ⟨g2, x2, n2, b2⟩ : (As.box W0.heap.size).holds (a.eval (.tmp 8)) w := hall 8 (by decide)
    have hne : g1 ≠ g2 := by
      intro e
      refine hdis 7 (by decide) 8 (by decide) (by decide) g1 ?_ ?_
      · show (As.box W0.heap.size).fb (a.eval (.tmp 7)) = some g1
        rw [x1]; rfl
      · show (As.box W0.heap.size).fb (a.eval (.tmp 8)) = some g1
        rw [x2, e]; rfl
    have y1 : RdW w (a.eval (.tmp 35)) (canI ia) (canS ia la) := hall 35 (by decide)
    have y2 : RdW w (a.eval (.tmp 37)) (canI ib) (canS ib lb) := hall 37 (by decide)
    show wpOps Tryz.prog ops3 Q [6, 7] a w
    refine two_stores q3_6 q3_7 x1 x2 b1 b2 y1 y2 hne ?_
    intro w' A1 A2 B1 B2 m1 m2 p1 p2 c1 c2 e1 e2 h1 h2 hbl
    rw [hf.laid (by rw [hsz]; decide)]
    exact hQ _ w' g1 g2 A1 A2 B1 B2 m1 m2 p1 p2 c1 c2 e1 e2 (hb.trans (hbl _ n1 n2)) x1 x2 h1 h2

noncomputable def ops16 : Array Oper := ((Tryz.f4.body).bind (getRegion 16)).getD #[]
theorem q16_0 : OpQ ops16 0 none (some 106) (.load 29 (.tmp 3)) [] := ⟨_, rfl, rfl, rfl, rfl, rfl⟩
theorem q16_1 : OpQ ops16 1 none (some 107) (.load 29 (.tmp 4)) [] := ⟨_, rfl, rfl, rfl, rfl, rfl⟩
theorem q16_2 : OpQ ops16 2 none (some 108) (.call { callee := .value (.func 21), args := #[.tmp 106, .tmp 107], argTypes := #[29, 29] }) [0, 1] := ⟨_, rfl, rfl, rfl, rfl, rfl⟩
theorem q16_3 : OpQ ops16 3 none (some 109) (.load 29 (.tmp 3)) [] := ⟨_, rfl, rfl, rfl, rfl, rfl⟩
theorem q16_4 : OpQ ops16 4 none (some 110) (.load 29 (.tmp 4)) [] := ⟨_, rfl, rfl, rfl, rfl, rfl⟩
theorem q16_5 : OpQ ops16 5 none (some 111) (.call { callee := .value (.func 22), args := #[.tmp 109, .tmp 110], argTypes := #[29, 29] }) [3, 4, 2] := ⟨_, rfl, rfl, rfl, rfl, rfl⟩
theorem q16_6 : OpQ ops16 6 none (some 13) (.alloc 29) [] := ⟨_, rfl, rfl, rfl, rfl, rfl⟩
theorem q16_7 : OpQ ops16 7 none (some 14) (.alloc 29) [] := ⟨_, rfl, rfl, rfl, rfl, rfl⟩
theorem q16_8 : OpQ ops16 8 none none (.store 29 (.tmp 13) (.tmp 108)) [6, 2, 5, 0, 1, 2, 6, 7] := ⟨_, rfl, rfl, rfl, rfl, rfl⟩
theorem q16_9 : OpQ ops16 9 none none (.store 29 (.tmp 14) (.tmp 111)) [7, 5, 8, 0, 1, 2, 3, 4, 5, 6, 7, 8] := ⟨_, rfl, rfl, rfl, rfl, rfl⟩
theorem size16 : ops16.size = 10 := rfl
theorem back16 : edgesBack ops16 = true := by kernel_rfl
def D16 : List Nat := [106, 107, 108, 109, 110, 111, 13, 14]
def tb16 (n0 : Nat) (U1 X1 U2 X2 : Value) (ia ib : List Int) (la lb : List ByteArray) : Nat → As := fun s => match s with | 106 => .val (.agg #[U1, X1]) | 107 => .val (.agg #[U2, X2]) | 108 => .rdw (canI (ia ++ ib)) (canS (ia ++ ib) (la ++ lb)) | 109 => .val (.agg #[U1, X1]) | 110 => .val (.agg #[U2, X2]) | 111 => .rdw (canI ((canI ia).filter fun n => !hasB n (canI ib))) (canS ((canI ia).filter fun n => !hasB n (canI ib)) (((canN ia la).filter fun n => !hasB n.1 (canS ib lb)).map fun n : Nm => n.1)) | 13 => .box n0 | 14 => .box n0 | _ => .any

set_option maxRecDepth 100000 in
theorem region16 {Q : Exit → Act → World → Prop} {a0 : Act} {W0 : World} {ga gb : Nat} {U1 X1 U2 X2 : Value} {ia ib : List Int} {la lb : List ByteArray} (hsz : a0.tmps.size = 199) (e3 : a0.eval (.tmp 3) = .pointer (some ⟨ga, 0, none⟩)) (e4 : a0.eval (.tmp 4) = .pointer (some ⟨gb, 0, none⟩))
    (hA : BxV W0 ga U1 X1 ia la) (hB : BxV W0 gb U2 X2 ib lb) (ka : Ok 30 ia la) (kb : Ok 30 ib lb) (hT : TabOk W0)
    (hQ : ∀ (u : Nat → Value) (w : World) (g1 g2 : Nat) (A1 A2 B1 B2 : Option Addr) (n1 n2 m1 m2 c1 c2 e1 e2 : Nat), Below W0.heap.size W0 w → u 13 = .pointer (some ⟨g1, 0, none⟩) → u 14 = .pointer (some ⟨g2, 0, none⟩) → BxV w g1 (.slice A1 n1 c1) (.slice B1 m1 e1) (canI (ia ++ ib)) (canS (ia ++ ib) (la ++ lb)) → BxV w g2 (.slice A2 n2 c2) (.slice B2 m2 e2) (canI ((canI ia).filter fun n => !hasB n (canI ib))) (canS ((canI ia).filter fun n => !hasB n (canI ib)) (((canN ia la).filter fun n => !hasB n.1 (canS ib lb)).map fun n : Nm => n.1)) → Q .normal (laid a0 u D16) w) : (Code.region 16 ops16 true).wp Tryz.prog Q a0 W0 := by
  refine region_as 8 D16 (tb16 W0.heap.size U1 X1 U2 X2 ia ib la lb) mixed back16 (by rw [size16]; decide) (waits_of (n := 2) (by kernel_rfl)) rfl (by kernel_rfl) (by decide) (by rw [hsz]; decide) ?_ ?_
  · have hs : ∀ a, Frm a0 D16 a → ∀ k, k ∉ D16 → a.eval (.tmp k) = a0.eval (.tmp k) := fun a h k hk => h.eval hk
    have st0 : AsStep Tryz.prog ops16 Q a0 W0 D16 (tb16 W0.heap.size U1 X1 U2 X2 ia ib la lb) 0 := by
      refine as_step q16_0 rfl ?_
      intro a w o hop hf hb hd
      have h3 : a.eval (.tmp 3) = .pointer (some ⟨ga, 0, none⟩) := (hs a hf 3 (by decide)).trans e3
      exact ow_load29 hop h3 (hA.below hb).c0 (hA.below hb).c1 (ask0 rfl rfl)
    have st1 : AsStep Tryz.prog ops16 Q a0 W0 D16 (tb16 W0.heap.size U1 X1 U2 X2 ia ib la lb) 1 := by
      refine as_step q16_1 rfl ?_
      intro a w o hop hf hb hd
      have h4 : a.eval (.tmp 4) = .pointer (some ⟨gb, 0, none⟩) := (hs a hf 4 (by decide)).trans e4
      exact ow_load29 hop h4 (hB.below hb).c0 (hB.below hb).c1 (ask0 rfl rfl)
    have st2 : AsStep Tryz.prog ops16 Q a0 W0 D16 (tb16 W0.heap.size U1 X1 U2 X2 ia ib la lb) 2 := by
      refine as_step q16_2 rfl ?_
      intro a w o hop hf hb hd
      have h106 : a.eval (.tmp 106) = (.agg #[U1, X1]) := hd 106 (by decide)
      have h107 : a.eval (.tmp 107) = (.agg #[U2, X2]) := hd 107 (by decide)
      refine ow_call2 hop cf21 (by rw [h106, h107]; exact plusC ka kb (by decide) (by decide) (hT.below hb) (hA.below hb).rdw (hB.below hb).rdw) ?_
      rintro e w' ⟨v, rfl, hv, hb'⟩
      exact ⟨v, rfl, askw rfl hv hb'⟩
    have st3 : AsStep Tryz.prog ops16 Q a0 W0 D16 (tb16 W0.heap.size U1 X1 U2 X2 ia ib la lb) 3 := by
      refine as_step q16_3 rfl ?_
      intro a w o hop hf hb hd
      have h3 : a.eval (.tmp 3) = .pointer (some ⟨ga, 0, none⟩) := (hs a hf 3 (by decide)).trans e3
      exact ow_load29 hop h3 (hA.below hb).c0 (hA.below hb).c1 (ask0 rfl rfl)
    have st4 : AsStep Tryz.prog ops16 Q a0 W0 D16 (tb16 W0.heap.size U1 X1 U2 X2 ia ib la lb) 4 := by
      refine as_step q16_4 rfl ?_
      intro a w o hop hf hb hd
      have h4 : a.eval (.tmp 4) = .pointer (some ⟨gb, 0, none⟩) := (hs a hf 4 (by decide)).trans e4
      exact ow_load29 hop h4 (hB.below hb).c0 (hB.below hb).c1 (ask0 rfl rfl)
    have st5 : AsStep Tryz.prog ops16 Q a0 W0 D16 (tb16 W0.heap.size U1 X1 U2 X2 ia ib la lb) 5 := by
      refine as_step q16_5 rfl ?_
      intro a w o hop hf hb hd
      have h109 : a.eval (.tmp 109) = (.agg #[U1, X1]) := hd 109 (by decide)
      have h110 : a.eval (.tmp 110) = (.agg #[U2, X2]) := hd 110 (by decide)
      refine ow_call2 hop cf22 (by rw [h109, h110]; exact minusC ka kb (by decide) (by decide) (hT.below hb) (hA.below hb).rdw (hB.below hb).rdw) ?_
      rintro e w' ⟨v, rfl, hv, hb'⟩
      exact ⟨v, rfl, askw rfl hv hb'⟩
    have st6 : AsStep Tryz.prog ops16 Q a0 W0 D16 (tb16 W0.heap.size U1 X1 U2 X2 ia ib la lb) 6 := by
      refine as_step q16_6 rfl ?_
      intro a w o hop hf hb hd
      exact ow_alloc29 hop (askb rfl hb.size)
    have st7 : AsStep Tryz.prog ops16 Q a0 W0 D16 (tb16 W0.heap.size U1 X1 U2 X2 ia ib la lb) 7 := by
      refine as_step q16_7 rfl ?_
      intro a w o hop hf hb hd
      exact ow_alloc29 hop (askb rfl hb.size)
    exact lt_succ_of (lt_succ_of (lt_succ_of (lt_succ_of (lt_succ_of (lt_succ_of (lt_succ_of (lt_succ_of (lt_zero_of) st0) st1) st2) st3) st4) st5) st6) st7
  · intro a w hf hb hall hdis
    obtain ⟨g1, x1, n1, b1⟩ : (As.box W0.heap.size).holds (a.eval (.tmp 13)) w := hall 13 (by decide)
    obtain ⟨g2, x2, n2, b2⟩ : (As.box W0.heap.size).holds (a.eval (.tmp 14)) w := hall 14 (by decide)
    have hne : g1 ≠ g2 := by
      intro e
      refine hdis 13 (by decide) 14 (by decide) (by decide) g1 ?_ ?_
      · show (As.box W0.heap.size).fb (a.eval (.tmp 13)) = some g1
        rw [x1]; rfl
      · show (As.box W0.heap.size).fb (a.eval (.tmp 14)) = some g1
        rw [x2, e]; rfl
    have y1 : RdW w (a.eval (.tmp 108)) (canI (ia ++ ib)) (canS (ia ++ ib) (la ++ lb)) := hall 108 (by decide)
    have y2 : RdW w (a.eval (.tmp 111)) (canI ((canI ia).filter fun n => !hasB n (canI ib))) (canS ((canI ia).filter fun n => !hasB n (canI ib)) (((canN ia la).filter fun n => !hasB n.1 (canS ib lb)).map fun n : Nm => n.1)) := hall 111 (by decide)
    show wpOps Tryz.prog ops16 Q [8, 9] a w
    refine two_stores q16_8 q16_9 x1 x2 b1 b2 y1 y2 hne ?_
    intro w' A1 A2 B1 B2 m1 m2 p1 p2 c1 c2 e1 e2 h1 h2 hbl
    rw [hf.laid (by rw [hsz]; decide)]
    exact hQ _ w' g1 g2 A1 A2 B1 B2 m1 m2 p1 p2 c1 c2 e1 e2 (hb.trans (hbl _ n1 n2)) x1 x2 h1 h2

end Go.Proofs.YtcbgngkalplafaaGreatDoor
/- The drawn regions of ScriptSets, the long '&&'. -/
namespace Go.Proofs.YtcbgngkalplafaaGreatDoor
open Go.RowKit Go.Shelf Lin

noncomputable def ops17 : Array Oper := ((Tryz.f4.body).bind (getRegion 17)).getD #[]
theorem q17_0 : OpQ ops17 0 none (some 112) (.load 29 (.tmp 13)) [] := ⟨_, rfl, rfl, rfl, rfl, rfl⟩
theorem q17_1 : OpQ ops17 1 none (some 113) (.call { callee := .value (.func 23), args := #[.tmp 112], argTypes := #[29] }) [0] := ⟨_, rfl, rfl, rfl, rfl, rfl⟩
theorem q17_2 : OpQ ops17 2 none (some 114) (.unOp .not 4 (.tmp 113)) [1] := ⟨_, rfl, rfl, rfl, rfl, rfl⟩
theorem q17_3 : OpQ ops17 3 none (some 115) (.move (.tmp 114)) [2, 1] := ⟨_, rfl, rfl, rfl, rfl, rfl⟩
theorem q17_4 : OpQ ops17 4 (some (3, false)) (some 116) (.load 29 (.tmp 14)) [3] := ⟨_, rfl, rfl, rfl, rfl, rfl⟩
theorem q17_5 : OpQ ops17 5 (some (3, false)) (some 117) (.call { callee := .value (.func 23), args := #[.tmp 116], argTypes := #[29] }) [4, 3, 3] := ⟨_, rfl, rfl, rfl, rfl, rfl⟩
theorem q17_6 : OpQ ops17 6 (some (3, false)) (some 118) (.unOp .not 4 (.tmp 117)) [5, 3] := ⟨_, rfl, rfl, rfl, rfl, rfl⟩
theorem q17_7 : OpQ ops17 7 none (some 119) (.pick (.tmp 115) (.const (.bool true)) (.tmp 118)) [3, 6] := ⟨_, rfl, rfl, rfl, rfl, rfl⟩
theorem q17_8 : OpQ ops17 8 none (some 120) (.move (.tmp 119)) [7, 5] := ⟨_, rfl, rfl, rfl, rfl, rfl⟩
theorem q17_9 : OpQ ops17 9 (some (8, false)) (some 121) (.fieldAddr 29 (.tmp 13) 0) [8] := ⟨_, rfl, rfl, rfl, rfl, rfl⟩
theorem q17_10 : OpQ ops17 10 (some (8, false)) (some 122) (.load 26 (.tmp 121)) [9, 8] := ⟨_, rfl, rfl, rfl, rfl, rfl⟩
theorem q17_11 : OpQ ops17 11 (some (8, false)) (some 123) (.fieldAddr 29 (.tmp 9) 0) [8] := ⟨_, rfl, rfl, rfl, rfl, rfl⟩
theorem q17_12 : OpQ ops17 12 (some (8, false)) (some 124) (.load 26 (.tmp 123)) [11, 8] := ⟨_, rfl, rfl, rfl, rfl, rfl⟩
theorem q17_13 : OpQ ops17 13 (some (8, false)) (some 125) (.call { callee := .value (.func 12), args := #[.tmp 122, .tmp 124], argTypes := #[26, 26] }) [10, 12, 8, 8] := ⟨_, rfl, rfl, rfl, rfl, rfl⟩
theorem q17_14 : OpQ ops17 14 (some (8, false)) (some 126) (.unOp .not 4 (.tmp 125)) [13, 8] := ⟨_, rfl, rfl, rfl, rfl, rfl⟩
theorem q17_15 : OpQ ops17 15 none (some 127) (.pick (.tmp 120) (.const (.bool true)) (.tmp 126)) [8, 14] := ⟨_, rfl, rfl, rfl, rfl, rfl⟩
theorem q17_16 : OpQ ops17 16 none (some 128) (.move (.tmp 127)) [15, 13] := ⟨_, rfl, rfl, rfl, rfl, rfl⟩
theorem q17_17 : OpQ ops17 17 (some (16, false)) (some 129) (.fieldAddr 29 (.tmp 13) 1) [16] := ⟨_, rfl, rfl, rfl, rfl, rfl⟩
theorem q17_18 : OpQ ops17 18 (some (16, false)) (some 130) (.load 27 (.tmp 129)) [17, 16] := ⟨_, rfl, rfl, rfl, rfl, rfl⟩
theorem q17_19 : OpQ ops17 19 (some (16, false)) (some 131) (.fieldAddr 29 (.tmp 9) 1) [16] := ⟨_, rfl, rfl, rfl, rfl, rfl⟩
theorem q17_20 : OpQ ops17 20 (some (16, false)) (some 132) (.load 27 (.tmp 131)) [19, 16] := ⟨_, rfl, rfl, rfl, rfl, rfl⟩
theorem q17_21 : OpQ ops17 21 (some (16, false)) (some 133) (.call { callee := .value (.func 13), args := #[.tmp 130, .tmp 132], argTypes := #[27, 27] }) [18, 20, 16, 16] := ⟨_, rfl, rfl, rfl, rfl, rfl⟩
theorem q17_22 : OpQ ops17 22 (some (16, false)) (some 134) (.unOp .not 4 (.tmp 133)) [21, 16] := ⟨_, rfl, rfl, rfl, rfl, rfl⟩
theorem q17_23 : OpQ ops17 23 none (some 135) (.pick (.tmp 128) (.const (.bool true)) (.tmp 134)) [16, 22] := ⟨_, rfl, rfl, rfl, rfl, rfl⟩
theorem q17_24 : OpQ ops17 24 none (some 136) (.move (.tmp 135)) [23, 21] := ⟨_, rfl, rfl, rfl, rfl, rfl⟩
theorem q17_25 : OpQ ops17 25 (some (24, false)) (some 137) (.load 29 (.tmp 14)) [24] := ⟨_, rfl, rfl, rfl, rfl, rfl⟩
theorem q17_26 : OpQ ops17 26 (some (24, false)) (some 138) (.load 29 (.tmp 10)) [24] := ⟨_, rfl, rfl, rfl, rfl, rfl⟩
theorem q17_27 : OpQ ops17 27 (some (24, false)) (some 139) (.call { callee := .value (.func 24), args := #[.tmp 137, .tmp 138], argTypes := #[29, 29] }) [25, 26, 24, 24] := ⟨_, rfl, rfl, rfl, rfl, rfl⟩
theorem q17_28 : OpQ ops17 28 (some (24, false)) (some 140) (.unOp .not 4 (.tmp 139)) [27, 24] := ⟨_, rfl, rfl, rfl, rfl, rfl⟩
theorem q17_29 : OpQ ops17 29 none (some 141) (.pick (.tmp 136) (.const (.bool true)) (.tmp 140)) [24, 28] := ⟨_, rfl, rfl, rfl, rfl, rfl⟩
theorem q17_30 : OpQ ops17 30 none (some 142) (.move (.tmp 141)) [29, 27] := ⟨_, rfl, rfl, rfl, rfl, rfl⟩
theorem q17_31 : OpQ ops17 31 (some (30, false)) (some 143) (.load 29 (.tmp 13)) [30] := ⟨_, rfl, rfl, rfl, rfl, rfl⟩
theorem q17_32 : OpQ ops17 32 (some (30, false)) (some 144) (.load 29 (.tmp 4)) [30] := ⟨_, rfl, rfl, rfl, rfl, rfl⟩
theorem q17_33 : OpQ ops17 33 (some (30, false)) (some 145) (.load 29 (.tmp 3)) [30] := ⟨_, rfl, rfl, rfl, rfl, rfl⟩
theorem q17_34 : OpQ ops17 34 (some (30, false)) (some 146) (.call { callee := .value (.func 21), args := #[.tmp 144, .tmp 145], argTypes := #[29, 29] }) [32, 33, 30, 30] := ⟨_, rfl, rfl, rfl, rfl, rfl⟩
theorem q17_35 : OpQ ops17 35 (some (30, false)) (some 147) (.call { callee := .value (.func 24), args := #[.tmp 143, .tmp 146], argTypes := #[29, 29] }) [31, 34, 34, 30] := ⟨_, rfl, rfl, rfl, rfl, rfl⟩
theorem q17_36 : OpQ ops17 36 (some (30, false)) (some 148) (.unOp .not 4 (.tmp 147)) [35, 30] := ⟨_, rfl, rfl, rfl, rfl, rfl⟩
theorem q17_37 : OpQ ops17 37 none (some 149) (.pick (.tmp 142) (.const (.bool true)) (.tmp 148)) [30, 36] := ⟨_, rfl, rfl, rfl, rfl, rfl⟩
theorem q17_38 : OpQ ops17 38 none (some 150) (.move (.tmp 149)) [37, 35] := ⟨_, rfl, rfl, rfl, rfl, rfl⟩
theorem q17_39 : OpQ ops17 39 (some (38, false)) (some 151) (.load 29 (.tmp 3)) [38] := ⟨_, rfl, rfl, rfl, rfl, rfl⟩
theorem q17_40 : OpQ ops17 40 (some (38, false)) (some 152) (.load 29 (.tmp 4)) [38] := ⟨_, rfl, rfl, rfl, rfl, rfl⟩
theorem q17_41 : OpQ ops17 41 (some (38, false)) (some 153) (.load 29 (.tmp 5)) [38] := ⟨_, rfl, rfl, rfl, rfl, rfl⟩
theorem q17_42 : OpQ ops17 42 (some (38, false)) (some 154) (.call { callee := .value (.func 21), args := #[.tmp 152, .tmp 153], argTypes := #[29, 29] }) [40, 41, 38, 38] := ⟨_, rfl, rfl, rfl, rfl, rfl⟩
theorem q17_43 : OpQ ops17 43 (some (38, false)) (some 155) (.call { callee := .value (.func 21), args := #[.tmp 151, .tmp 154], argTypes := #[29, 29] }) [39, 42, 42, 38] := ⟨_, rfl, rfl, rfl, rfl, rfl⟩
theorem q17_44 : OpQ ops17 44 (some (38, false)) (some 156) (.load 29 (.tmp 13)) [38] := ⟨_, rfl, rfl, rfl, rfl, rfl⟩
theorem q17_45 : OpQ ops17 45 (some (38, false)) (some 157) (.load 29 (.tmp 5)) [38] := ⟨_, rfl, rfl, rfl, rfl, rfl⟩
theorem q17_46 : OpQ ops17 46 (some (38, false)) (some 158) (.call { callee := .value (.func 21), args := #[.tmp 156, .tmp 157], argTypes := #[29, 29] }) [44, 45, 43, 38] := ⟨_, rfl, rfl, rfl, rfl, rfl⟩
theorem q17_47 : OpQ ops17 47 (some (38, false)) (some 159) (.call { callee := .value (.func 24), args := #[.tmp 155, .tmp 158], argTypes := #[29, 29] }) [43, 46, 46, 38] := ⟨_, rfl, rfl, rfl, rfl, rfl⟩
theorem q17_48 : OpQ ops17 48 (some (38, false)) (some 160) (.unOp .not 4 (.tmp 159)) [47, 38] := ⟨_, rfl, rfl, rfl, rfl, rfl⟩
theorem q17_49 : OpQ ops17 49 none (some 161) (.pick (.tmp 150) (.const (.bool true)) (.tmp 160)) [38, 48] := ⟨_, rfl, rfl, rfl, rfl, rfl⟩
theorem size17 : ops17.size = 50 := rfl
theorem back17 : edgesBack ops17 = true := by kernel_rfl
def D17 : List Nat := [112, 113, 114, 115, 116, 117, 118, 119, 120, 121, 122, 123, 124, 125, 126, 127, 128, 129, 130, 131, 132, 133, 134, 135, 136, 137, 138, 139, 140, 141, 142, 143, 144, 145, 146, 147, 148, 149, 150, 151, 152, 153, 154, 155, 156, 157, 158, 159, 160, 161]
def tb17 (ga gb gc gp gm gs gr : Nat) (U1 X1 U2 X2 U3 X3 P1 P2 M1 M2 S1 S2 R1 R2 : Value) (ia ib ic : List Int) (la lb lc : List ByteArray) : Nat → As := fun s => match s with | 112 => .val (.agg #[P1, P2]) | 113 => .val (.bool true) | 114 => .val (.bool false) | 115 => .val (.bool false) | 116 => .val (.agg #[M1, M2]) | 117 => .val (.bool true) | 118 => .val (.bool false) | 119 => .val (.bool false) | 120 => .val (.bool false) | 121 => .val (.pointer (some ⟨gp, 0, none⟩)) | 122 => .val (P1) | 123 => .val (.pointer (some ⟨gs, 0, none⟩)) | 124 => .val (S1) | 125 => .val (.bool true) | 126 => .val (.bool false) | 127 => .val (.bool false) | 128 => .val (.bool false) | 129 => .val (.pointer (some ⟨gp, 1, none⟩)) | 130 => .val (P2) | 131 => .val (.pointer (some ⟨gs, 1, none⟩)) | 132 => .val (S2) | 133 => .val (.bool true) | 134 => .val (.bool false) | 135 => .val (.bool false) | 136 => .val (.bool false) | 137 => .val (.agg #[M1, M2]) | 138 => .val (.agg #[R1, R2]) | 139 => .val (.bool true) | 140 => .val (.bool false) | 141 => .val (.bool false) | 142 => .val (.bool false) | 143 => .val (.agg #[P1, P2]) | 144 => .val (.agg #[U2, X2]) | 145 => .val (.agg #[U1, X1]) | 146 => .rdw (canI (ib ++ ia)) (canS (ib ++ ia) (lb ++ la)) | 147 => .val (.bool true) | 148 => .val (.bool false) | 149 => .val (.bool false) | 150 => .val (.bool false) | 151 => .val (.agg #[U1, X1]) | 152 => .val (.agg #[U2, X2]) | 153 => .val (.agg #[U3, X3]) | 154 => .rdw (canI (ib ++ ic)) (canS (ib ++ ic) (lb ++ lc)) | 155 => .rdw (canI (ia ++ canI (ib ++ ic))) (canS (ia ++ canI (ib ++ ic)) (la ++ canS (ib ++ ic) (lb ++ lc))) | 156 => .val (.agg #[P1, P2]) | 157 => .val (.agg #[U3, X3]) | 158 => .rdw (canI (canI (ia ++ ib) ++ ic)) (canS (canI (ia ++ ib) ++ ic) (canS (ia ++ ib) (la ++ lb) ++ lc)) | 159 => .val (.bool true) | 160 => .val (.bool false) | 161 => .val (.bool false) | _ => .any

set_option maxRecDepth 100000 in
theorem region17 {Q : Exit → Act → World → Prop} {a0 : Act} {W0 : World} {ga gb gc gp gm gs gr : Nat} {U1 X1 U2 X2 U3 X3 P1 P2 M1 M2 S1 S2 R1 R2 : Value} {ia ib ic : List Int} {la lb lc : List ByteArray} (hsz : a0.tmps.size = 199) (e3 : a0.eval (.tmp 3) = .pointer (some ⟨ga, 0, none⟩)) (e4 : a0.eval (.tmp 4) = .pointer (some ⟨gb, 0, none⟩)) (e5 : a0.eval (.tmp 5) = .pointer (some ⟨gc, 0, none⟩)) (e13 : a0.eval (.tmp 13) = .pointer (some ⟨gp, 0, none⟩)) (e14 : a0.eval (.tmp 14) = .pointer (some ⟨gm, 0, none⟩)) (e9 : a0.eval (.tmp 9) = .pointer (some ⟨gs, 0, none⟩)) (e10 : a0.eval (.tmp 10) = .pointer (some ⟨gr, 0, none⟩))
    (hA : BxV W0 ga U1 X1 (ia) (la)) (hB : BxV W0 gb U2 X2 (ib) (lb)) (hC : BxV W0 gc U3 X3 (ic) (lc)) (hP : BxV W0 gp P1 P2 (canI (ia ++ ib)) (canS (ia ++ ib) (la ++ lb))) (hM : BxV W0 gm M1 M2 (canI (minI ia ib)) (canS (minI ia ib) (minN ia ib la lb))) (hS : BxV W0 gs S1 S2 (canI (ia ++ ib)) (canS (ia ++ ib) (la ++ lb))) (hR : BxV W0 gr R1 R2 (minI ia ib) (minN ia ib la lb)) (ka : Ok 30 ia la) (kb : Ok 30 ib lb) (kc : Ok 30 ic lc) (kR : Ok 30 (minI ia ib) (minN ia ib la lb)) (hT : TabOk W0)
    (hQ : ∀ (u : Nat → Value) (w : World), Below W0.heap.size W0 w → u 161 = .bool false → Q .normal (laid a0 u D17) w) : (Code.region 17 ops17 true).wp Tryz.prog Q a0 W0 := by
  have kM : Ok 30 (canI (minI ia ib)) (canS (minI ia ib) (minN ia ib la lb)) := kR.can
  refine region_as 50 D17 (tb17 ga gb gc gp gm gs gr U1 X1 U2 X2 U3 X3 P1 P2 M1 M2 S1 S2 R1 R2 ia ib ic la lb lc) mixed back17 (by rw [size17]; decide) (waits_none (by rw [size17]; decide)) rfl (by kernel_rfl) (by decide) (by rw [hsz]; decide) ?_ ?_
  · have hs : ∀ a, Frm a0 D17 a → ∀ k, k ∉ D17 → a.eval (.tmp k) = a0.eval (.tmp k) := fun a h k hk => h.eval hk
    have st0 : AsStep Tryz.prog ops17 Q a0 W0 D17 (tb17 ga gb gc gp gm gs gr U1 X1 U2 X2 U3 X3 P1 P2 M1 M2 S1 S2 R1 R2 ia ib ic la lb lc) 0 := by
      refine as_step q17_0 rfl ?_
      intro a w o hop hf hb hd
      have h13 : a.eval (.tmp 13) = .pointer (some ⟨gp, 0, none⟩) := (hs a hf 13 (by decide)).trans e13
      exact ow_load29 hop h13 (hP.below hb).c0 (hP.below hb).c1 (ask0 rfl rfl)
    have st1 : AsStep Tryz.prog ops17 Q a0 W0 D17 (tb17 ga gb gc gp gm gs gr U1 X1 U2 X2 U3 X3 P1 P2 M1 M2 S1 S2 R1 R2 ia ib ic la lb lc) 1 := by
      refine as_step q17_1 rfl ?_
      intro a w o hop hf hb hd
      have h112 : a.eval (.tmp 112) = (.agg #[P1, P2]) := hd 112 (by decide)
      refine ow_call1 hop cf23 (by rw [h112]; exact isCanC (ka.app kb).can (by decide) (hT.below hb) (hP.below hb).rdw) ?_
      rintro e w' ⟨rfl, hb'⟩
      exact ⟨_, rfl, ask rfl (congrArg Value.bool (pl_isCan (ia ++ ib) (la ++ lb))) hb'⟩
    have st2 : AsStep Tryz.prog ops17 Q a0 W0 D17 (tb17 ga gb gc gp gm gs gr U1 X1 U2 X2 U3 X3 P1 P2 M1 M2 S1 S2 R1 R2 ia ib ic la lb lc) 2 := by
      refine as_step q17_2 rfl ?_
      intro a w o hop hf hb hd
      have h113 : a.eval (.tmp 113) = (.bool true) := hd 113 (by decide)
      exact ow_not hop h113 (ask0 rfl rfl)
    have st3 : AsStep Tryz.prog ops17 Q a0 W0 D17 (tb17 ga gb gc gp gm gs gr U1 X1 U2 X2 U3 X3 P1 P2 M1 M2 S1 S2 R1 R2 ia ib ic la lb lc) 3 := by
      refine as_step q17_3 rfl ?_
      intro a w o hop hf hb hd
      have h114 : a.eval (.tmp 114) = (.bool false) := hd 114 (by decide)
      exact ow_move hop h114 (ask0 rfl rfl)
    have st4 : AsStep Tryz.prog ops17 Q a0 W0 D17 (tb17 ga gb gc gp gm gs gr U1 X1 U2 X2 U3 X3 P1 P2 M1 M2 S1 S2 R1 R2 ia ib ic la lb lc) 4 := by
      refine as_guard q17_4 rfl (sg := 115) ⟨_, rfl, rfl⟩ rfl (by decide) rfl ?_
      intro a w o hop hf hb hd
      have h14 : a.eval (.tmp 14) = .pointer (some ⟨gm, 0, none⟩) := (hs a hf 14 (by decide)).trans e14
      exact ow_load29 hop h14 (hM.below hb).c0 (hM.below hb).c1 (ask0 rfl rfl)
    have st5 : AsStep Tryz.prog ops17 Q a0 W0 D17 (tb17 ga gb gc gp gm gs gr U1 X1 U2 X2 U3 X3 P1 P2 M1 M2 S1 S2 R1 R2 ia ib ic la lb lc) 5 := by
      refine as_guard q17_5 rfl (sg := 115) ⟨_, rfl, rfl⟩ rfl (by decide) rfl ?_
      intro a w o hop hf hb hd
      have h116 : a.eval (.tmp 116) = (.agg #[M1, M2]) := hd 116 (by decide)
      refine ow_call1 hop cf23 (by rw [h116]; exact isCanC kM (by decide) (hT.below hb) (hM.below hb).rdw) ?_
      rintro e w' ⟨rfl, hb'⟩
      exact ⟨_, rfl, ask rfl (congrArg Value.bool (pl_isCan (minI ia ib) (minN ia ib la lb))) hb'⟩
    have st6 : AsStep Tryz.prog ops17 Q a0 W0 D17 (tb17 ga gb gc gp gm gs gr U1 X1 U2 X2 U3 X3 P1 P2 M1 M2 S1 S2 R1 R2 ia ib ic la lb lc) 6 := by
      refine as_guard q17_6 rfl (sg := 115) ⟨_, rfl, rfl⟩ rfl (by decide) rfl ?_
      intro a w o hop hf hb hd
      have h117 : a.eval (.tmp 117) = (.bool true) := hd 117 (by decide)
      exact ow_not hop h117 (ask0 rfl rfl)
    have st7 : AsStep Tryz.prog ops17 Q a0 W0 D17 (tb17 ga gb gc gp gm gs gr U1 X1 U2 X2 U3 X3 P1 P2 M1 M2 S1 S2 R1 R2 ia ib ic la lb lc) 7 := by
      refine as_step q17_7 rfl ?_
      intro a w o hop hf hb hd
      have h115 : a.eval (.tmp 115) = (.bool false) := hd 115 (by decide)
      have h118 : a.eval (.tmp 118) = (.bool false) := hd 118 (by decide)
      exact ow_pickF hop h115 h118 (ask0 rfl rfl)
    have st8 : AsStep Tryz.prog ops17 Q a0 W0 D17 (tb17 ga gb gc gp gm gs gr U1 X1 U2 X2 U3 X3 P1 P2 M1 M2 S1 S2 R1 R2 ia ib ic la lb lc) 8 := by
      refine as_step q17_8 rfl ?_
      intro a w o hop hf hb hd
      have h119 : a.eval (.tmp 119) = (.bool false) := hd 119 (by decide)
      exact ow_move hop h119 (ask0 rfl rfl)
    have st9 : AsStep Tryz.prog ops17 Q a0 W0 D17 (tb17 ga gb gc gp gm gs gr U1 X1 U2 X2 U3 X3 P1 P2 M1 M2 S1 S2 R1 R2 ia ib ic la lb lc) 9 := by
      refine as_guard q17_9 rfl (sg := 120) ⟨_, rfl, rfl⟩ rfl (by decide) rfl ?_
      intro a w o hop hf hb hd
      have h13 : a.eval (.tmp 13) = .pointer (some ⟨gp, 0, none⟩) := (hs a hf 13 (by decide)).trans e13
      exact ow_fieldAddr0 hop h13 (ask0 rfl rfl)
    have st10 : AsStep Tryz.prog ops17 Q a0 W0 D17 (tb17 ga gb gc gp gm gs gr U1 X1 U2 X2 U3 X3 P1 P2 M1 M2 S1 S2 R1 R2 ia ib ic la lb lc) 10 := by
      refine as_guard q17_10 rfl (sg := 120) ⟨_, rfl, rfl⟩ rfl (by decide) rfl ?_
      intro a w o hop hf hb hd
      have h121 : a.eval (.tmp 121) = (.pointer (some ⟨gp, 0, none⟩)) := hd 121 (by decide)
      exact ow_load26 hop h121 (hP.below hb).c0 (ask0 rfl rfl)
    have st11 : AsStep Tryz.prog ops17 Q a0 W0 D17 (tb17 ga gb gc gp gm gs gr U1 X1 U2 X2 U3 X3 P1 P2 M1 M2 S1 S2 R1 R2 ia ib ic la lb lc) 11 := by
      refine as_guard q17_11 rfl (sg := 120) ⟨_, rfl, rfl⟩ rfl (by decide) rfl ?_
      intro a w o hop hf hb hd
      have h9 : a.eval (.tmp 9) = .pointer (some ⟨gs, 0, none⟩) := (hs a hf 9 (by decide)).trans e9
      exact ow_fieldAddr0 hop h9 (ask0 rfl rfl)
    have st12 : AsStep Tryz.prog ops17 Q a0 W0 D17 (tb17 ga gb gc gp gm gs gr U1 X1 U2 X2 U3 X3 P1 P2 M1 M2 S1 S2 R1 R2 ia ib ic la lb lc) 12 := by
      refine as_guard q17_12 rfl (sg := 120) ⟨_, rfl, rfl⟩ rfl (by decide) rfl ?_
      intro a w o hop hf hb hd
      have h123 : a.eval (.tmp 123) = (.pointer (some ⟨gs, 0, none⟩)) := hd 123 (by decide)
      exact ow_load26 hop h123 (hS.below hb).c0 (ask0 rfl rfl)
    have st13 : AsStep Tryz.prog ops17 Q a0 W0 D17 (tb17 ga gb gc gp gm gs gr U1 X1 U2 X2 U3 X3 P1 P2 M1 M2 S1 S2 R1 R2 ia ib ic la lb lc) 13 := by
      refine as_guard q17_13 rfl (sg := 120) ⟨_, rfl, rfl⟩ rfl (by decide) rfl ?_
      intro a w o hop hf hb hd
      have h122 : a.eval (.tmp 122) = (P1) := hd 122 (by decide)
      have h124 : a.eval (.tmp 124) = (S1) := hd 124 (by decide)
      refine ow_call2 hop cf12 (by rw [h122, h124]; exact sameNumbers_any (canI (ia ++ ib)) (canI (ia ++ ib)) _ _ w (hP.below hb).ru (hS.below hb).ru) ?_
      rintro e w' ⟨rfl, hb'⟩
      exact ⟨_, rfl, ask rfl (congrArg Value.bool (decide_eq_true rfl)) hb'⟩
    have st14 : AsStep Tryz.prog ops17 Q a0 W0 D17 (tb17 ga gb gc gp gm gs gr U1 X1 U2 X2 U3 X3 P1 P2 M1 M2 S1 S2 R1 R2 ia ib ic la lb lc) 14 := by
      refine as_guard q17_14 rfl (sg := 120) ⟨_, rfl, rfl⟩ rfl (by decide) rfl ?_
      intro a w o hop hf hb hd
      have h125 : a.eval (.tmp 125) = (.bool true) := hd 125 (by decide)
      exact ow_not hop h125 (ask0 rfl rfl)
    have st15 : AsStep Tryz.prog ops17 Q a0 W0 D17 (tb17 ga gb gc gp gm gs gr U1 X1 U2 X2 U3 X3 P1 P2 M1 M2 S1 S2 R1 R2 ia ib ic la lb lc) 15 := by
      refine as_step q17_15 rfl ?_
      intro a w o hop hf hb hd
      have h120 : a.eval (.tmp 120) = (.bool false) := hd 120 (by decide)
      have h126 : a.eval (.tmp 126) = (.bool false) := hd 126 (by decide)
      exact ow_pickF hop h120 h126 (ask0 rfl rfl)
    have st16 : AsStep Tryz.prog ops17 Q a0 W0 D17 (tb17 ga gb gc gp gm gs gr U1 X1 U2 X2 U3 X3 P1 P2 M1 M2 S1 S2 R1 R2 ia ib ic la lb lc) 16 := by
      refine as_step q17_16 rfl ?_
      intro a w o hop hf hb hd
      have h127 : a.eval (.tmp 127) = (.bool false) := hd 127 (by decide)
      exact ow_move hop h127 (ask0 rfl rfl)
    have st17 : AsStep Tryz.prog ops17 Q a0 W0 D17 (tb17 ga gb gc gp gm gs gr U1 X1 U2 X2 U3 X3 P1 P2 M1 M2 S1 S2 R1 R2 ia ib ic la lb lc) 17 := by
      refine as_guard q17_17 rfl (sg := 128) ⟨_, rfl, rfl⟩ rfl (by decide) rfl ?_
      intro a w o hop hf hb hd
      have h13 : a.eval (.tmp 13) = .pointer (some ⟨gp, 0, none⟩) := (hs a hf 13 (by decide)).trans e13
      exact ow_fieldAddr1 hop h13 (ask0 rfl rfl)
    have st18 : AsStep Tryz.prog ops17 Q a0 W0 D17 (tb17 ga gb gc gp gm gs gr U1 X1 U2 X2 U3 X3 P1 P2 M1 M2 S1 S2 R1 R2 ia ib ic la lb lc) 18 := by
      refine as_guard q17_18 rfl (sg := 128) ⟨_, rfl, rfl⟩ rfl (by decide) rfl ?_
      intro a w o hop hf hb hd
      have h129 : a.eval (.tmp 129) = (.pointer (some ⟨gp, 1, none⟩)) := hd 129 (by decide)
      exact ow_load27 hop h129 (hP.below hb).c1 (ask0 rfl rfl)
    have st19 : AsStep Tryz.prog ops17 Q a0 W0 D17 (tb17 ga gb gc gp gm gs gr U1 X1 U2 X2 U3 X3 P1 P2 M1 M2 S1 S2 R1 R2 ia ib ic la lb lc) 19 := by
      refine as_guard q17_19 rfl (sg := 128) ⟨_, rfl, rfl⟩ rfl (by decide) rfl ?_
      intro a w o hop hf hb hd
      have h9 : a.eval (.tmp 9) = .pointer (some ⟨gs, 0, none⟩) := (hs a hf 9 (by decide)).trans e9
      exact ow_fieldAddr1 hop h9 (ask0 rfl rfl)
    have st20 : AsStep Tryz.prog ops17 Q a0 W0 D17 (tb17 ga gb gc gp gm gs gr U1 X1 U2 X2 U3 X3 P1 P2 M1 M2 S1 S2 R1 R2 ia ib ic la lb lc) 20 := by
      refine as_guard q17_20 rfl (sg := 128) ⟨_, rfl, rfl⟩ rfl (by decide) rfl ?_
      intro a w o hop hf hb hd
      have h131 : a.eval (.tmp 131) = (.pointer (some ⟨gs, 1, none⟩)) := hd 131 (by decide)
      exact ow_load27 hop h131 (hS.below hb).c1 (ask0 rfl rfl)
    have st21 : AsStep Tryz.prog ops17 Q a0 W0 D17 (tb17 ga gb gc gp gm gs gr U1 X1 U2 X2 U3 X3 P1 P2 M1 M2 S1 S2 R1 R2 ia ib ic la lb lc) 21 := by
      refine as_guard q17_21 rfl (sg := 128) ⟨_, rfl, rfl⟩ rfl (by decide) rfl ?_
      intro a w o hop hf hb hd
      have h130 : a.eval (.tmp 130) = (P2) := hd 130 (by decide)
      have h132 : a.eval (.tmp 132) = (S2) := hd 132 (by decide)
      refine ow_call2 hop cf13 (by rw [h130, h132]; exact sameNames_any (canS (ia ++ ib) (la ++ lb)) (canS (ia ++ ib) (la ++ lb)) _ _ w (hP.below hb).rx (hS.below hb).rx) ?_
      rintro e w' ⟨rfl, hb'⟩
      exact ⟨_, rfl, ask rfl (congrArg Value.bool (decide_eq_true rfl)) hb'⟩
    have st22 : AsStep Tryz.prog ops17 Q a0 W0 D17 (tb17 ga gb gc gp gm gs gr U1 X1 U2 X2 U3 X3 P1 P2 M1 M2 S1 S2 R1 R2 ia ib ic la lb lc) 22 := by
      refine as_guard q17_22 rfl (sg := 128) ⟨_, rfl, rfl⟩ rfl (by decide) rfl ?_
      intro a w o hop hf hb hd
      have h133 : a.eval (.tmp 133) = (.bool true) := hd 133 (by decide)
      exact ow_not hop h133 (ask0 rfl rfl)
    have st23 : AsStep Tryz.prog ops17 Q a0 W0 D17 (tb17 ga gb gc gp gm gs gr U1 X1 U2 X2 U3 X3 P1 P2 M1 M2 S1 S2 R1 R2 ia ib ic la lb lc) 23 := by
      refine as_step q17_23 rfl ?_
      intro a w o hop hf hb hd
      have h128 : a.eval (.tmp 128) = (.bool false) := hd 128 (by decide)
      have h134 : a.eval (.tmp 134) = (.bool false) := hd 134 (by decide)
      exact ow_pickF hop h128 h134 (ask0 rfl rfl)
    have st24 : AsStep Tryz.prog ops17 Q a0 W0 D17 (tb17 ga gb gc gp gm gs gr U1 X1 U2 X2 U3 X3 P1 P2 M1 M2 S1 S2 R1 R2 ia ib ic la lb lc) 24 := by
      refine as_step q17_24 rfl ?_
      intro a w o hop hf hb hd
      have h135 : a.eval (.tmp 135) = (.bool false) := hd 135 (by decide)
      exact ow_move hop h135 (ask0 rfl rfl)
    have st25 : AsStep Tryz.prog ops17 Q a0 W0 D17 (tb17 ga gb gc gp gm gs gr U1 X1 U2 X2 U3 X3 P1 P2 M1 M2 S1 S2 R1 R2 ia ib ic la lb lc) 25 := by
      refine as_guard q17_25 rfl (sg := 136) ⟨_, rfl, rfl⟩ rfl (by decide) rfl ?_
      intro a w o hop hf hb hd
      have h14 : a.eval (.tmp 14) = .pointer (some ⟨gm, 0, none⟩) := (hs a hf 14 (by decide)).trans e14
      exact ow_load29 hop h14 (hM.below hb).c0 (hM.below hb).c1 (ask0 rfl rfl)
    have st26 : AsStep Tryz.prog ops17 Q a0 W0 D17 (tb17 ga gb gc gp gm gs gr U1 X1 U2 X2 U3 X3 P1 P2 M1 M2 S1 S2 R1 R2 ia ib ic la lb lc) 26 := by
      refine as_guard q17_26 rfl (sg := 136) ⟨_, rfl, rfl⟩ rfl (by decide) rfl ?_
      intro a w o hop hf hb hd
      have h10 : a.eval (.tmp 10) = .pointer (some ⟨gr, 0, none⟩) := (hs a hf 10 (by decide)).trans e10
      exact ow_load29 hop h10 (hR.below hb).c0 (hR.below hb).c1 (ask0 rfl rfl)
    have st27 : AsStep Tryz.prog ops17 Q a0 W0 D17 (tb17 ga gb gc gp gm gs gr U1 X1 U2 X2 U3 X3 P1 P2 M1 M2 S1 S2 R1 R2 ia ib ic la lb lc) 27 := by
      refine as_guard q17_27 rfl (sg := 136) ⟨_, rfl, rfl⟩ rfl (by decide) rfl ?_
      intro a w o hop hf hb hd
      have h137 : a.eval (.tmp 137) = (.agg #[M1, M2]) := hd 137 (by decide)
      have h138 : a.eval (.tmp 138) = (.agg #[R1, R2]) := hd 138 (by decide)
      refine ow_call2 hop cf24 (by rw [h137, h138]; exact equalC kM kR (by decide) (by decide) (hT.below hb) (hM.below hb).rdw (hR.below hb).rdw) ?_
      rintro e w' ⟨rfl, hb'⟩
      exact ⟨_, rfl, ask rfl (congrArg Value.bool (pl_rest ia ib la lb)) hb'⟩
    have st28 : AsStep Tryz.prog ops17 Q a0 W0 D17 (tb17 ga gb gc gp gm gs gr U1 X1 U2 X2 U3 X3 P1 P2 M1 M2 S1 S2 R1 R2 ia ib ic la lb lc) 28 := by
      refine as_guard q17_28 rfl (sg := 136) ⟨_, rfl, rfl⟩ rfl (by decide) rfl ?_
      intro a w o hop hf hb hd
      have h139 : a.eval (.tmp 139) = (.bool true) := hd 139 (by decide)
      exact ow_not hop h139 (ask0 rfl rfl)
    have st29 : AsStep Tryz.prog ops17 Q a0 W0 D17 (tb17 ga gb gc gp gm gs gr U1 X1 U2 X2 U3 X3 P1 P2 M1 M2 S1 S2 R1 R2 ia ib ic la lb lc) 29 := by
      refine as_step q17_29 rfl ?_
      intro a w o hop hf hb hd
      have h136 : a.eval (.tmp 136) = (.bool false) := hd 136 (by decide)
      have h140 : a.eval (.tmp 140) = (.bool false) := hd 140 (by decide)
      exact ow_pickF hop h136 h140 (ask0 rfl rfl)
    have st30 : AsStep Tryz.prog ops17 Q a0 W0 D17 (tb17 ga gb gc gp gm gs gr U1 X1 U2 X2 U3 X3 P1 P2 M1 M2 S1 S2 R1 R2 ia ib ic la lb lc) 30 := by
      refine as_step q17_30 rfl ?_
      intro a w o hop hf hb hd
      have h141 : a.eval (.tmp 141) = (.bool false) := hd 141 (by decide)
      exact ow_move hop h141 (ask0 rfl rfl)
    have st31 : AsStep Tryz.prog ops17 Q a0 W0 D17 (tb17 ga gb gc gp gm gs gr U1 X1 U2 X2 U3 X3 P1 P2 M1 M2 S1 S2 R1 R2 ia ib ic la lb lc) 31 := by
      refine as_guard q17_31 rfl (sg := 142) ⟨_, rfl, rfl⟩ rfl (by decide) rfl ?_
      intro a w o hop hf hb hd
      have h13 : a.eval (.tmp 13) = .pointer (some ⟨gp, 0, none⟩) := (hs a hf 13 (by decide)).trans e13
      exact ow_load29 hop h13 (hP.below hb).c0 (hP.below hb).c1 (ask0 rfl rfl)
    have st32 : AsStep Tryz.prog ops17 Q a0 W0 D17 (tb17 ga gb gc gp gm gs gr U1 X1 U2 X2 U3 X3 P1 P2 M1 M2 S1 S2 R1 R2 ia ib ic la lb lc) 32 := by
      refine as_guard q17_32 rfl (sg := 142) ⟨_, rfl, rfl⟩ rfl (by decide) rfl ?_
      intro a w o hop hf hb hd
      have h4 : a.eval (.tmp 4) = .pointer (some ⟨gb, 0, none⟩) := (hs a hf 4 (by decide)).trans e4
      exact ow_load29 hop h4 (hB.below hb).c0 (hB.below hb).c1 (ask0 rfl rfl)
    have st33 : AsStep Tryz.prog ops17 Q a0 W0 D17 (tb17 ga gb gc gp gm gs gr U1 X1 U2 X2 U3 X3 P1 P2 M1 M2 S1 S2 R1 R2 ia ib ic la lb lc) 33 := by
      refine as_guard q17_33 rfl (sg := 142) ⟨_, rfl, rfl⟩ rfl (by decide) rfl ?_
      intro a w o hop hf hb hd
      have h3 : a.eval (.tmp 3) = .pointer (some ⟨ga, 0, none⟩) := (hs a hf 3 (by decide)).trans e3
      exact ow_load29 hop h3 (hA.below hb).c0 (hA.below hb).c1 (ask0 rfl rfl)
    have st34 : AsStep Tryz.prog ops17 Q a0 W0 D17 (tb17 ga gb gc gp gm gs gr U1 X1 U2 X2 U3 X3 P1 P2 M1 M2 S1 S2 R1 R2 ia ib ic la lb lc) 34 := by
      refine as_guard q17_34 rfl (sg := 142) ⟨_, rfl, rfl⟩ rfl (by decide) rfl ?_
      intro a w o hop hf hb hd
      have h144 : a.eval (.tmp 144) = (.agg #[U2, X2]) := hd 144 (by decide)
      have h145 : a.eval (.tmp 145) = (.agg #[U1, X1]) := hd 145 (by decide)
      refine ow_call2 hop cf21 (by rw [h144, h145]; exact plusC kb ka (by decide) (by decide) (hT.below hb) (hB.below hb).rdw (hA.below hb).rdw) ?_
      rintro e w' ⟨v, rfl, hv, hb'⟩
      exact ⟨v, rfl, askw rfl hv hb'⟩
    have st35 : AsStep Tryz.prog ops17 Q a0 W0 D17 (tb17 ga gb gc gp gm gs gr U1 X1 U2 X2 U3 X3 P1 P2 M1 M2 S1 S2 R1 R2 ia ib ic la lb lc) 35 := by
      refine as_guard q17_35 rfl (sg := 142) ⟨_, rfl, rfl⟩ rfl (by decide) rfl ?_
      intro a w o hop hf hb hd
      have h143 : a.eval (.tmp 143) = (.agg #[P1, P2]) := hd 143 (by decide)
      have h146 : RdW w (a.eval (.tmp 146)) (canI (ib ++ ia)) (canS (ib ++ ia) (lb ++ la)) := hd 146 (by decide)
      refine ow_call2 hop cf24 (by rw [h143]; exact equalC (ka.app kb).can (kb.app ka).can (by decide) (by decide) (hT.below hb) (hP.below hb).rdw h146) ?_
      rintro e w' ⟨rfl, hb'⟩
      exact ⟨_, rfl, ask rfl (congrArg Value.bool (pl_comm ia ib la lb)) hb'⟩
    have st36 : AsStep Tryz.prog ops17 Q a0 W0 D17 (tb17 ga gb gc gp gm gs gr U1 X1 U2 X2 U3 X3 P1 P2 M1 M2 S1 S2 R1 R2 ia ib ic la lb lc) 36 := by
      refine as_guard q17_36 rfl (sg := 142) ⟨_, rfl, rfl⟩ rfl (by decide) rfl ?_
      intro a w o hop hf hb hd
      have h147 : a.eval (.tmp 147) = (.bool true) := hd 147 (by decide)
      exact ow_not hop h147 (ask0 rfl rfl)
    have st37 : AsStep Tryz.prog ops17 Q a0 W0 D17 (tb17 ga gb gc gp gm gs gr U1 X1 U2 X2 U3 X3 P1 P2 M1 M2 S1 S2 R1 R2 ia ib ic la lb lc) 37 := by
      refine as_step q17_37 rfl ?_
      intro a w o hop hf hb hd
      have h142 : a.eval (.tmp 142) = (.bool false) := hd 142 (by decide)
      have h148 : a.eval (.tmp 148) = (.bool false) := hd 148 (by decide)
      exact ow_pickF hop h142 h148 (ask0 rfl rfl)
    have st38 : AsStep Tryz.prog ops17 Q a0 W0 D17 (tb17 ga gb gc gp gm gs gr U1 X1 U2 X2 U3 X3 P1 P2 M1 M2 S1 S2 R1 R2 ia ib ic la lb lc) 38 := by
      refine as_step q17_38 rfl ?_
      intro a w o hop hf hb hd
      have h149 : a.eval (.tmp 149) = (.bool false) := hd 149 (by decide)
      exact ow_move hop h149 (ask0 rfl rfl)
    have st39 : AsStep Tryz.prog ops17 Q a0 W0 D17 (tb17 ga gb gc gp gm gs gr U1 X1 U2 X2 U3 X3 P1 P2 M1 M2 S1 S2 R1 R2 ia ib ic la lb lc) 39 := by
      refine as_guard q17_39 rfl (sg := 150) ⟨_, rfl, rfl⟩ rfl (by decide) rfl ?_
      intro a w o hop hf hb hd
      have h3 : a.eval (.tmp 3) = .pointer (some ⟨ga, 0, none⟩) := (hs a hf 3 (by decide)).trans e3
      exact ow_load29 hop h3 (hA.below hb).c0 (hA.below hb).c1 (ask0 rfl rfl)
    have st40 : AsStep Tryz.prog ops17 Q a0 W0 D17 (tb17 ga gb gc gp gm gs gr U1 X1 U2 X2 U3 X3 P1 P2 M1 M2 S1 S2 R1 R2 ia ib ic la lb lc) 40 := by
      refine as_guard q17_40 rfl (sg := 150) ⟨_, rfl, rfl⟩ rfl (by decide) rfl ?_
      intro a w o hop hf hb hd
      have h4 : a.eval (.tmp 4) = .pointer (some ⟨gb, 0, none⟩) := (hs a hf 4 (by decide)).trans e4
      exact ow_load29 hop h4 (hB.below hb).c0 (hB.below hb).c1 (ask0 rfl rfl)
    have st41 : AsStep Tryz.prog ops17 Q a0 W0 D17 (tb17 ga gb gc gp gm gs gr U1 X1 U2 X2 U3 X3 P1 P2 M1 M2 S1 S2 R1 R2 ia ib ic la lb lc) 41 := by
      refine as_guard q17_41 rfl (sg := 150) ⟨_, rfl, rfl⟩ rfl (by decide) rfl ?_
      intro a w o hop hf hb hd
      have h5 : a.eval (.tmp 5) = .pointer (some ⟨gc, 0, none⟩) := (hs a hf 5 (by decide)).trans e5
      exact ow_load29 hop h5 (hC.below hb).c0 (hC.below hb).c1 (ask0 rfl rfl)
    have st42 : AsStep Tryz.prog ops17 Q a0 W0 D17 (tb17 ga gb gc gp gm gs gr U1 X1 U2 X2 U3 X3 P1 P2 M1 M2 S1 S2 R1 R2 ia ib ic la lb lc) 42 := by
      refine as_guard q17_42 rfl (sg := 150) ⟨_, rfl, rfl⟩ rfl (by decide) rfl ?_
      intro a w o hop hf hb hd
      have h152 : a.eval (.tmp 152) = (.agg #[U2, X2]) := hd 152 (by decide)
      have h153 : a.eval (.tmp 153) = (.agg #[U3, X3]) := hd 153 (by decide)
      refine ow_call2 hop cf21 (by rw [h152, h153]; exact plusC kb kc (by decide) (by decide) (hT.below hb) (hB.below hb).rdw (hC.below hb).rdw) ?_
      rintro e w' ⟨v, rfl, hv, hb'⟩
      exact ⟨v, rfl, askw rfl hv hb'⟩
    have st43 : AsStep Tryz.prog ops17 Q a0 W0 D17 (tb17 ga gb gc gp gm gs gr U1 X1 U2 X2 U3 X3 P1 P2 M1 M2 S1 S2 R1 R2 ia ib ic la lb lc) 43 := by
      refine as_guard q17_43 rfl (sg := 150) ⟨_, rfl, rfl⟩ rfl (by decide) rfl ?_
      intro a w o hop hf hb hd
      have h151 : a.eval (.tmp 151) = (.agg #[U1, X1]) := hd 151 (by decide)
      have h154 : RdW w (a.eval (.tmp 154)) (canI (ib ++ ic)) (canS (ib ++ ic) (lb ++ lc)) := hd 154 (by decide)
      refine ow_call2 hop cf21 (by rw [h151]; exact plusC ka (kb.app kc).can (by decide) (by decide) (hT.below hb) (hA.below hb).rdw h154) ?_
      rintro e w' ⟨v, rfl, hv, hb'⟩
      exact ⟨v, rfl, askw rfl hv hb'⟩
    have st44 : AsStep Tryz.prog ops17 Q a0 W0 D17 (tb17 ga gb gc gp gm gs gr U1 X1 U2 X2 U3 X3 P1 P2 M1 M2 S1 S2 R1 R2 ia ib ic la lb lc) 44 := by
      refine as_guard q17_44 rfl (sg := 150) ⟨_, rfl, rfl⟩ rfl (by decide) rfl ?_
      intro a w o hop hf hb hd
      have h13 : a.eval (.tmp 13) = .pointer (some ⟨gp, 0, none⟩) := (hs a hf 13 (by decide)).trans e13
      exact ow_load29 hop h13 (hP.below hb).c0 (hP.below hb).c1 (ask0 rfl rfl)
    have st45 : AsStep Tryz.prog ops17 Q a0 W0 D17 (tb17 ga gb gc gp gm gs gr U1 X1 U2 X2 U3 X3 P1 P2 M1 M2 S1 S2 R1 R2 ia ib ic la lb lc) 45 := by
      refine as_guard q17_45 rfl (sg := 150) ⟨_, rfl, rfl⟩ rfl (by decide) rfl ?_
      intro a w o hop hf hb hd
      have h5 : a.eval (.tmp 5) = .pointer (some ⟨gc, 0, none⟩) := (hs a hf 5 (by decide)).trans e5
      exact ow_load29 hop h5 (hC.below hb).c0 (hC.below hb).c1 (ask0 rfl rfl)
    have st46 : AsStep Tryz.prog ops17 Q a0 W0 D17 (tb17 ga gb gc gp gm gs gr U1 X1 U2 X2 U3 X3 P1 P2 M1 M2 S1 S2 R1 R2 ia ib ic la lb lc) 46 := by
      refine as_guard q17_46 rfl (sg := 150) ⟨_, rfl, rfl⟩ rfl (by decide) rfl ?_
      intro a w o hop hf hb hd
      have h156 : a.eval (.tmp 156) = (.agg #[P1, P2]) := hd 156 (by decide)
      have h157 : a.eval (.tmp 157) = (.agg #[U3, X3]) := hd 157 (by decide)
      refine ow_call2 hop cf21 (by rw [h156, h157]; exact plusC (ka.app kb).can kc (by decide) (by decide) (hT.below hb) (hP.below hb).rdw (hC.below hb).rdw) ?_
      rintro e w' ⟨v, rfl, hv, hb'⟩
      exact ⟨v, rfl, askw rfl hv hb'⟩
    have st47 : AsStep Tryz.prog ops17 Q a0 W0 D17 (tb17 ga gb gc gp gm gs gr U1 X1 U2 X2 U3 X3 P1 P2 M1 M2 S1 S2 R1 R2 ia ib ic la lb lc) 47 := by
      refine as_guard q17_47 rfl (sg := 150) ⟨_, rfl, rfl⟩ rfl (by decide) rfl ?_
      intro a w o hop hf hb hd
      have h155 : RdW w (a.eval (.tmp 155)) (canI (ia ++ canI (ib ++ ic))) (canS (ia ++ canI (ib ++ ic)) (la ++ canS (ib ++ ic) (lb ++ lc))) := hd 155 (by decide)
      have h158 : RdW w (a.eval (.tmp 158)) (canI (canI (ia ++ ib) ++ ic)) (canS (canI (ia ++ ib) ++ ic) (canS (ia ++ ib) (la ++ lb) ++ lc)) := hd 158 (by decide)
      refine ow_call2 hop cf24 (by exact equalC (ka.app (kb.app kc).can).can ((ka.app kb).can.app kc).can (by decide) (by decide) (hT.below hb) h155 h158) ?_
      rintro e w' ⟨rfl, hb'⟩
      exact ⟨_, rfl, ask rfl (congrArg Value.bool (pl_assoc ia ib ic la lb lc)) hb'⟩
    have st48 : AsStep Tryz.prog ops17 Q a0 W0 D17 (tb17 ga gb gc gp gm gs gr U1 X1 U2 X2 U3 X3 P1 P2 M1 M2 S1 S2 R1 R2 ia ib ic la lb lc) 48 := by
      refine as_guard q17_48 rfl (sg := 150) ⟨_, rfl, rfl⟩ rfl (by decide) rfl ?_
      intro a w o hop hf hb hd
      have h159 : a.eval (.tmp 159) = (.bool true) := hd 159 (by decide)
      exact ow_not hop h159 (ask0 rfl rfl)
    have st49 : AsStep Tryz.prog ops17 Q a0 W0 D17 (tb17 ga gb gc gp gm gs gr U1 X1 U2 X2 U3 X3 P1 P2 M1 M2 S1 S2 R1 R2 ia ib ic la lb lc) 49 := by
      refine as_step q17_49 rfl ?_
      intro a w o hop hf hb hd
      have h150 : a.eval (.tmp 150) = (.bool false) := hd 150 (by decide)
      have h160 : a.eval (.tmp 160) = (.bool false) := hd 160 (by decide)
      exact ow_pickF hop h150 h160 (ask0 rfl rfl)
    exact lt_succ_of (lt_succ_of (lt_succ_of (lt_succ_of (lt_succ_of (lt_succ_of (lt_succ_of (lt_succ_of (lt_succ_of (lt_succ_of (lt_succ_of (lt_succ_of (lt_succ_of (lt_succ_of (lt_succ_of (lt_succ_of (lt_succ_of (lt_succ_of (lt_succ_of (lt_succ_of (lt_succ_of (lt_succ_of (lt_succ_of (lt_succ_of (lt_succ_of (lt_succ_of (lt_succ_of (lt_succ_of (lt_succ_of (lt_succ_of (lt_succ_of (lt_succ_of (lt_succ_of (lt_succ_of (lt_succ_of (lt_succ_of (lt_succ_of (lt_succ_of (lt_succ_of (lt_succ_of (lt_succ_of (lt_succ_of (lt_succ_of (lt_succ_of (lt_succ_of (lt_succ_of (lt_succ_of (lt_succ_of (lt_succ_of (lt_succ_of (lt_zero_of) st0) st1) st2) st3) st4) st5) st6) st7) st8) st9) st10) st11) st12) st13) st14) st15) st16) st17) st18) st19) st20) st21) st22) st23) st24) st25) st26) st27) st28) st29) st30) st31) st32) st33) st34) st35) st36) st37) st38) st39) st40) st41) st42) st43) st44) st45) st46) st47) st48) st49
  · intro a w hf hb hall _
    rw [hf.laid (by rw [hsz]; decide)]
    exact hQ _ w hb (hall 161 (by decide))

noncomputable def ops20 : Array Oper := ((Tryz.f4.body).bind (getRegion 20)).getD #[]
theorem q20_0 : OpQ ops20 0 none (some 174) (.load 29 (.tmp 3)) [] := ⟨_, rfl, rfl, rfl, rfl, rfl⟩
theorem q20_1 : OpQ ops20 1 none (some 175) (.load 29 (.tmp 4)) [] := ⟨_, rfl, rfl, rfl, rfl, rfl⟩
theorem q20_2 : OpQ ops20 2 none (some 176) (.call { callee := .value (.func 24), args := #[.tmp 174, .tmp 175], argTypes := #[29, 29] }) [0, 1] := ⟨_, rfl, rfl, rfl, rfl, rfl⟩
theorem q20_3 : OpQ ops20 3 none (some 177) (.move (.tmp 15)) [] := ⟨_, rfl, rfl, rfl, rfl, rfl⟩
theorem q20_4 : OpQ ops20 4 none (some 178) (.binOp .eql 4 (.tmp 176) (.tmp 177) 4) [2, 3] := ⟨_, rfl, rfl, rfl, rfl, rfl⟩
theorem q20_5 : OpQ ops20 5 none (some 179) (.move (.tmp 178)) [4, 2] := ⟨_, rfl, rfl, rfl, rfl, rfl⟩
theorem q20_6 : OpQ ops20 6 (some (5, true)) (some 180) (.load 29 (.tmp 4)) [5] := ⟨_, rfl, rfl, rfl, rfl, rfl⟩
theorem q20_7 : OpQ ops20 7 (some (5, true)) (some 181) (.load 29 (.tmp 3)) [5] := ⟨_, rfl, rfl, rfl, rfl, rfl⟩
theorem q20_8 : OpQ ops20 8 (some (5, true)) (some 182) (.call { callee := .value (.func 24), args := #[.tmp 180, .tmp 181], argTypes := #[29, 29] }) [6, 7, 5, 5] := ⟨_, rfl, rfl, rfl, rfl, rfl⟩
theorem q20_9 : OpQ ops20 9 (some (5, true)) (some 183) (.move (.tmp 15)) [5] := ⟨_, rfl, rfl, rfl, rfl, rfl⟩
theorem q20_10 : OpQ ops20 10 (some (5, true)) (some 184) (.binOp .eql 4 (.tmp 182) (.tmp 183) 4) [8, 9, 5] := ⟨_, rfl, rfl, rfl, rfl, rfl⟩
theorem q20_11 : OpQ ops20 11 none (some 185) (.pick (.tmp 179) (.tmp 184) (.const (.bool false))) [5, 10] := ⟨_, rfl, rfl, rfl, rfl, rfl⟩
theorem q20_12 : OpQ ops20 12 none (some 186) (.move (.tmp 185)) [11, 8] := ⟨_, rfl, rfl, rfl, rfl, rfl⟩
theorem q20_13 : OpQ ops20 13 (some (12, true)) (some 187) (.load 29 (.tmp 3)) [12] := ⟨_, rfl, rfl, rfl, rfl, rfl⟩
theorem q20_14 : OpQ ops20 14 (some (12, true)) (some 188) (.load 29 (.tmp 3)) [12] := ⟨_, rfl, rfl, rfl, rfl, rfl⟩
theorem q20_15 : OpQ ops20 15 (some (12, true)) (some 189) (.call { callee := .value (.func 21), args := #[.tmp 187, .tmp 188], argTypes := #[29, 29] }) [13, 14, 12, 12] := ⟨_, rfl, rfl, rfl, rfl, rfl⟩
theorem q20_16 : OpQ ops20 16 (some (12, true)) (some 190) (.load 29 (.tmp 3)) [12] := ⟨_, rfl, rfl, rfl, rfl, rfl⟩
theorem q20_17 : OpQ ops20 17 (some (12, true)) (some 191) (.call { callee := .value (.func 24), args := #[.tmp 189, .tmp 190], argTypes := #[29, 29] }) [15, 16, 15, 12] := ⟨_, rfl, rfl, rfl, rfl, rfl⟩
theorem q20_18 : OpQ ops20 18 none (some 192) (.pick (.tmp 186) (.tmp 191) (.const (.bool false))) [12, 17] := ⟨_, rfl, rfl, rfl, rfl, rfl⟩
theorem q20_19 : OpQ ops20 19 none (some 193) (.move (.tmp 192)) [18, 17] := ⟨_, rfl, rfl, rfl, rfl, rfl⟩
theorem q20_20 : OpQ ops20 20 (some (19, true)) (some 194) (.load 29 (.tmp 3)) [19] := ⟨_, rfl, rfl, rfl, rfl, rfl⟩
theorem q20_21 : OpQ ops20 21 (some (19, true)) (some 195) (.load 29 (.tmp 3)) [19] := ⟨_, rfl, rfl, rfl, rfl, rfl⟩
theorem q20_22 : OpQ ops20 22 (some (19, true)) (some 196) (.call { callee := .value (.func 22), args := #[.tmp 194, .tmp 195], argTypes := #[29, 29] }) [20, 21, 19, 19] := ⟨_, rfl, rfl, rfl, rfl, rfl⟩
theorem q20_23 : OpQ ops20 23 (some (19, true)) (some 197) (.call { callee := .value (.func 14), args := #[.tmp 196], argTypes := #[29] }) [22, 22, 19] := ⟨_, rfl, rfl, rfl, rfl, rfl⟩
theorem q20_24 : OpQ ops20 24 none (some 198) (.pick (.tmp 193) (.tmp 197) (.const (.bool false))) [19, 23] := ⟨_, rfl, rfl, rfl, rfl, rfl⟩
theorem q20_25 : OpQ ops20 25 none (some 6) (.assign (.tmp 198)) [24, 23, 0, 1, 2, 3, 4, 5, 6, 7, 8, 9, 10, 11, 12, 13, 14, 15, 16, 17, 18, 19, 20, 21, 22, 23, 24] := ⟨_, rfl, rfl, rfl, rfl, rfl⟩
theorem size20 : ops20.size = 26 := rfl
theorem back20 : edgesBack ops20 = true := by kernel_rfl
def D20 : List Nat := [174, 175, 176, 177, 178, 179, 180, 181, 182, 183, 184, 185, 186, 187, 188, 189, 190, 191, 192, 193, 194, 195, 196, 197, 198, 6]
def tb20 (U1 X1 U2 X2 : Value) (ia ib : List Int) (la lb : List ByteArray) : Nat → As := fun s => match s with | 174 => .val (.agg #[U1, X1]) | 175 => .val (.agg #[U2, X2]) | 176 => .val (.bool (eqB ia ib la lb)) | 177 => .val (.bool (eqB ia ib la lb)) | 178 => .val (.bool true) | 179 => .val (.bool true) | 180 => .val (.agg #[U2, X2]) | 181 => .val (.agg #[U1, X1]) | 182 => .val (.bool (eqB ia ib la lb)) | 183 => .val (.bool (eqB ia ib la lb)) | 184 => .val (.bool true) | 185 => .val (.bool true) | 186 => .val (.bool true) | 187 => .val (.agg #[U1, X1]) | 188 => .val (.agg #[U1, X1]) | 189 => .rdw (canI (ia ++ ia)) (canS (ia ++ ia) (la ++ la)) | 190 => .val (.agg #[U1, X1]) | 191 => .val (.bool true) | 192 => .val (.bool true) | 193 => .val (.bool true) | 194 => .val (.agg #[U1, X1]) | 195 => .val (.agg #[U1, X1]) | 196 => .rdw (canI (minI ia ia)) (canS (minI ia ia) (minN ia ia la la)) | 197 => .val (.bool true) | 198 => .val (.bool true) | 6 => .val (.bool true) | _ => .any

set_option maxRecDepth 100000 in
theorem region20 {Q : Exit → Act → World → Prop} {a0 : Act} {W0 : World} {ga gb : Nat} {U1 X1 U2 X2 : Value} {ia ib : List Int} {la lb : List ByteArray} (hsz : a0.tmps.size = 199) (e3 : a0.eval (.tmp 3) = .pointer (some ⟨ga, 0, none⟩)) (e4 : a0.eval (.tmp 4) = .pointer (some ⟨gb, 0, none⟩)) (e15 : a0.eval (.tmp 15) = .bool (eqB ia ib la lb))
    (hA : BxV W0 ga U1 X1 ia la) (hB : BxV W0 gb U2 X2 ib lb) (ka : Ok 30 ia la) (kb : Ok 30 ib lb) (kN : Ok 30 (minI ia ia) (minN ia ia la la)) (hT : TabOk W0)
    (hQ : ∀ (u : Nat → Value) (w : World), Below W0.heap.size W0 w → u 6 = .bool true → Q .normal (laid a0 u D20) w) : (Code.region 20 ops20 true).wp Tryz.prog Q a0 W0 := by
  refine region_as 26 D20 (tb20 U1 X1 U2 X2 ia ib la lb) mixed back20 (by rw [size20]; decide) (waits_none (by rw [size20]; decide)) rfl (by kernel_rfl) (by decide) (by rw [hsz]; decide) ?_ ?_
  · have hs : ∀ a, Frm a0 D20 a → ∀ k, k ∉ D20 → a.eval (.tmp k) = a0.eval (.tmp k) := fun a h k hk => h.eval hk
    have st0 : AsStep Tryz.prog ops20 Q a0 W0 D20 (tb20 U1 X1 U2 X2 ia ib la lb) 0 := by
      refine as_step q20_0 rfl ?_
      intro a w o hop hf hb hd
      have h3 : a.eval (.tmp 3) = .pointer (some ⟨ga, 0, none⟩) := (hs a hf 3 (by decide)).trans e3
      exact ow_load29 hop h3 (hA.below hb).c0 (hA.below hb).c1 (ask0 rfl rfl)
    have st1 : AsStep Tryz.prog ops20 Q a0 W0 D20 (tb20 U1 X1 U2 X2 ia ib la lb) 1 := by
      refine as_step q20_1 rfl ?_
      intro a w o hop hf hb hd
      have h4 : a.eval (.tmp 4) = .pointer (some ⟨gb, 0, none⟩) := (hs a hf 4 (by decide)).trans e4
      exact ow_load29 hop h4 (hB.below hb).c0 (hB.below hb).c1 (ask0 rfl rfl)
    have st2 : AsStep Tryz.prog ops20 Q a0 W0 D20 (tb20 U1 X1 U2 X2 ia ib la lb) 2 := by
      refine as_step q20_2 rfl ?_
      intro a w o hop hf hb hd
      have h174 : a.eval (.tmp 174) = (.agg #[U1, X1]) := hd 174 (by decide)
      have h175 : a.eval (.tmp 175) = (.agg #[U2, X2]) := hd 175 (by decide)
      refine ow_call2 hop cf24 (by rw [h174, h175]; exact equalC ka kb (by decide) (by decide) (hT.below hb) (hA.below hb).rdw (hB.below hb).rdw) ?_
      rintro e w' ⟨rfl, hb'⟩
      exact ⟨_, rfl, ask rfl (congrArg Value.bool (rfl)) hb'⟩
    have st3 : AsStep Tryz.prog ops20 Q a0 W0 D20 (tb20 U1 X1 U2 X2 ia ib la lb) 3 := by
      refine as_step q20_3 rfl ?_
      intro a w o hop hf hb hd
      have h15 : a.eval (.tmp 15) = .bool (eqB ia ib la lb) := (hs a hf 15 (by decide)).trans e15
      exact ow_move hop h15 (ask0 rfl rfl)
    have st4 : AsStep Tryz.prog ops20 Q a0 W0 D20 (tb20 U1 X1 U2 X2 ia ib la lb) 4 := by
      refine as_step q20_4 rfl ?_
      intro a w o hop hf hb hd
      have h176 : a.eval (.tmp 176) = (.bool (eqB ia ib la lb)) := hd 176 (by decide)
      have h177 : a.eval (.tmp 177) = (.bool (eqB ia ib la lb)) := hd 177 (by decide)
      exact ow_eqlB hop h176 h177 (ask0 rfl (congrArg Value.bool (beq_self_eq_true _)))
    have st5 : AsStep Tryz.prog ops20 Q a0 W0 D20 (tb20 U1 X1 U2 X2 ia ib la lb) 5 := by
      refine as_step q20_5 rfl ?_
      intro a w o hop hf hb hd
      have h178 : a.eval (.tmp 178) = (.bool true) := hd 178 (by decide)
      exact ow_move hop h178 (ask0 rfl rfl)
    have st6 : AsStep Tryz.prog ops20 Q a0 W0 D20 (tb20 U1 X1 U2 X2 ia ib la lb) 6 := by
      refine as_guard q20_6 rfl (sg := 179) ⟨_, rfl, rfl⟩ rfl (by decide) rfl ?_
      intro a w o hop hf hb hd
      have h4 : a.eval (.tmp 4) = .pointer (some ⟨gb, 0, none⟩) := (hs a hf 4 (by decide)).trans e4
      exact ow_load29 hop h4 (hB.below hb).c0 (hB.below hb).c1 (ask0 rfl rfl)
    have st7 : AsStep Tryz.prog ops20 Q a0 W0 D20 (tb20 U1 X1 U2 X2 ia ib la lb) 7 := by
      refine as_guard q20_7 rfl (sg := 179) ⟨_, rfl, rfl⟩ rfl (by decide) rfl ?_
      intro a w o hop hf hb hd
      have h3 : a.eval (.tmp 3) = .pointer (some ⟨ga, 0, none⟩) := (hs a hf 3 (by decide)).trans e3
      exact ow_load29 hop h3 (hA.below hb).c0 (hA.below hb).c1 (ask0 rfl rfl)
    have st8 : AsStep Tryz.prog ops20 Q a0 W0 D20 (tb20 U1 X1 U2 X2 ia ib la lb) 8 := by
      refine as_guard q20_8 rfl (sg := 179) ⟨_, rfl, rfl⟩ rfl (by decide) rfl ?_
      intro a w o hop hf hb hd
      have h180 : a.eval (.tmp 180) = (.agg #[U2, X2]) := hd 180 (by decide)
      have h181 : a.eval (.tmp 181) = (.agg #[U1, X1]) := hd 181 (by decide)
      refine ow_call2 hop cf24 (by rw [h180, h181]; exact equalC kb ka (by decide) (by decide) (hT.below hb) (hB.below hb).rdw (hA.below hb).rdw) ?_
      rintro e w' ⟨rfl, hb'⟩
      exact ⟨_, rfl, ask rfl (congrArg Value.bool (eqB_symm ib ia lb la)) hb'⟩
    have st9 : AsStep Tryz.prog ops20 Q a0 W0 D20 (tb20 U1 X1 U2 X2 ia ib la lb) 9 := by
      refine as_guard q20_9 rfl (sg := 179) ⟨_, rfl, rfl⟩ rfl (by decide) rfl ?_
      intro a w o hop hf hb hd
      have h15 : a.eval (.tmp 15) = .bool (eqB ia ib la lb) := (hs a hf 15 (by decide)).trans e15
      exact ow_move hop h15 (ask0 rfl rfl)
    have st10 : AsStep Tryz.prog ops20 Q a0 W0 D20 (tb20 U1 X1 U2 X2 ia ib la lb) 10 := by
      refine as_guard q20_10 rfl (sg := 179) ⟨_, rfl, rfl⟩ rfl (by decide) rfl ?_
      intro a w o hop hf hb hd
      have h182 : a.eval (.tmp 182) = (.bool (eqB ia ib la lb)) := hd 182 (by decide)
      have h183 : a.eval (.tmp 183) = (.bool (eqB ia ib la lb)) := hd 183 (by decide)
      exact ow_eqlB hop h182 h183 (ask0 rfl (congrArg Value.bool (beq_self_eq_true _)))
    have st11 : AsStep Tryz.prog ops20 Q a0 W0 D20 (tb20 U1 X1 U2 X2 ia ib la lb) 11 := by
      refine as_step q20_11 rfl ?_
      intro a w o hop hf hb hd
      have h179 : a.eval (.tmp 179) = (.bool true) := hd 179 (by decide)
      have h184 : a.eval (.tmp 184) = (.bool true) := hd 184 (by decide)
      exact ow_pickT hop h179 h184 (ask0 rfl rfl)
    have st12 : AsStep Tryz.prog ops20 Q a0 W0 D20 (tb20 U1 X1 U2 X2 ia ib la lb) 12 := by
      refine as_step q20_12 rfl ?_
      intro a w o hop hf hb hd
      have h185 : a.eval (.tmp 185) = (.bool true) := hd 185 (by decide)
      exact ow_move hop h185 (ask0 rfl rfl)
    have st13 : AsStep Tryz.prog ops20 Q a0 W0 D20 (tb20 U1 X1 U2 X2 ia ib la lb) 13 := by
      refine as_guard q20_13 rfl (sg := 186) ⟨_, rfl, rfl⟩ rfl (by decide) rfl ?_
      intro a w o hop hf hb hd
      have h3 : a.eval (.tmp 3) = .pointer (some ⟨ga, 0, none⟩) := (hs a hf 3 (by decide)).trans e3
      exact ow_load29 hop h3 (hA.below hb).c0 (hA.below hb).c1 (ask0 rfl rfl)
    have st14 : AsStep Tryz.prog ops20 Q a0 W0 D20 (tb20 U1 X1 U2 X2 ia ib la lb) 14 := by
      refine as_guard q20_14 rfl (sg := 186) ⟨_, rfl, rfl⟩ rfl (by decide) rfl ?_
      intro a w o hop hf hb hd
      have h3 : a.eval (.tmp 3) = .pointer (some ⟨ga, 0, none⟩) := (hs a hf 3 (by decide)).trans e3
      exact ow_load29 hop h3 (hA.below hb).c0 (hA.below hb).c1 (ask0 rfl rfl)
    have st15 : AsStep Tryz.prog ops20 Q a0 W0 D20 (tb20 U1 X1 U2 X2 ia ib la lb) 15 := by
      refine as_guard q20_15 rfl (sg := 186) ⟨_, rfl, rfl⟩ rfl (by decide) rfl ?_
      intro a w o hop hf hb hd
      have h187 : a.eval (.tmp 187) = (.agg #[U1, X1]) := hd 187 (by decide)
      have h188 : a.eval (.tmp 188) = (.agg #[U1, X1]) := hd 188 (by decide)
      refine ow_call2 hop cf21 (by rw [h187, h188]; exact plusC ka ka (by decide) (by decide) (hT.below hb) (hA.below hb).rdw (hA.below hb).rdw) ?_
      rintro e w' ⟨v, rfl, hv, hb'⟩
      exact ⟨v, rfl, askw rfl hv hb'⟩
    have st16 : AsStep Tryz.prog ops20 Q a0 W0 D20 (tb20 U1 X1 U2 X2 ia ib la lb) 16 := by
      refine as_guard q20_16 rfl (sg := 186) ⟨_, rfl, rfl⟩ rfl (by decide) rfl ?_
      intro a w o hop hf hb hd
      have h3 : a.eval (.tmp 3) = .pointer (some ⟨ga, 0, none⟩) := (hs a hf 3 (by decide)).trans e3
      exact ow_load29 hop h3 (hA.below hb).c0 (hA.below hb).c1 (ask0 rfl rfl)
    have st17 : AsStep Tryz.prog ops20 Q a0 W0 D20 (tb20 U1 X1 U2 X2 ia ib la lb) 17 := by
      refine as_guard q20_17 rfl (sg := 186) ⟨_, rfl, rfl⟩ rfl (by decide) rfl ?_
      intro a w o hop hf hb hd
      have h189 : RdW w (a.eval (.tmp 189)) (canI (ia ++ ia)) (canS (ia ++ ia) (la ++ la)) := hd 189 (by decide)
      have h190 : a.eval (.tmp 190) = (.agg #[U1, X1]) := hd 190 (by decide)
      refine ow_call2 hop cf24 (by rw [h190]; exact equalC (ka.app ka).can ka (by decide) (by decide) (hT.below hb) h189 (hA.below hb).rdw) ?_
      rintro e w' ⟨rfl, hb'⟩
      exact ⟨_, rfl, ask rfl (congrArg Value.bool (pl_dup ia la)) hb'⟩
    have st18 : AsStep Tryz.prog ops20 Q a0 W0 D20 (tb20 U1 X1 U2 X2 ia ib la lb) 18 := by
      refine as_step q20_18 rfl ?_
      intro a w o hop hf hb hd
      have h186 : a.eval (.tmp 186) = (.bool true) := hd 186 (by decide)
      have h191 : a.eval (.tmp 191) = (.bool true) := hd 191 (by decide)
      exact ow_pickT hop h186 h191 (ask0 rfl rfl)
    have st19 : AsStep Tryz.prog ops20 Q a0 W0 D20 (tb20 U1 X1 U2 X2 ia ib la lb) 19 := by
      refine as_step q20_19 rfl ?_
      intro a w o hop hf hb hd
      have h192 : a.eval (.tmp 192) = (.bool true) := hd 192 (by decide)
      exact ow_move hop h192 (ask0 rfl rfl)
    have st20 : AsStep Tryz.prog ops20 Q a0 W0 D20 (tb20 U1 X1 U2 X2 ia ib la lb) 20 := by
      refine as_guard q20_20 rfl (sg := 193) ⟨_, rfl, rfl⟩ rfl (by decide) rfl ?_
      intro a w o hop hf hb hd
      have h3 : a.eval (.tmp 3) = .pointer (some ⟨ga, 0, none⟩) := (hs a hf 3 (by decide)).trans e3
      exact ow_load29 hop h3 (hA.below hb).c0 (hA.below hb).c1 (ask0 rfl rfl)
    have st21 : AsStep Tryz.prog ops20 Q a0 W0 D20 (tb20 U1 X1 U2 X2 ia ib la lb) 21 := by
      refine as_guard q20_21 rfl (sg := 193) ⟨_, rfl, rfl⟩ rfl (by decide) rfl ?_
      intro a w o hop hf hb hd
      have h3 : a.eval (.tmp 3) = .pointer (some ⟨ga, 0, none⟩) := (hs a hf 3 (by decide)).trans e3
      exact ow_load29 hop h3 (hA.below hb).c0 (hA.below hb).c1 (ask0 rfl rfl)
    have st22 : AsStep Tryz.prog ops20 Q a0 W0 D20 (tb20 U1 X1 U2 X2 ia ib la lb) 22 := by
      refine as_guard q20_22 rfl (sg := 193) ⟨_, rfl, rfl⟩ rfl (by decide) rfl ?_
      intro a w o hop hf hb hd
      have h194 : a.eval (.tmp 194) = (.agg #[U1, X1]) := hd 194 (by decide)
      have h195 : a.eval (.tmp 195) = (.agg #[U1, X1]) := hd 195 (by decide)
      refine ow_call2 hop cf22 (by rw [h194, h195]; exact minusC ka ka (by decide) (by decide) (hT.below hb) (hA.below hb).rdw (hA.below hb).rdw) ?_
      rintro e w' ⟨v, rfl, hv, hb'⟩
      exact ⟨v, rfl, askw rfl hv hb'⟩
    have st23 : AsStep Tryz.prog ops20 Q a0 W0 D20 (tb20 U1 X1 U2 X2 ia ib la lb) 23 := by
      refine as_guard q20_23 rfl (sg := 193) ⟨_, rfl, rfl⟩ rfl (by decide) rfl ?_
      intro a w o hop hf hb hd
      have h196 : RdW w (a.eval (.tmp 196)) (canI (minI ia ia)) (canS (minI ia ia) (minN ia ia la la)) := hd 196 (by decide)
      refine ow_call1 hop cf14 (by exact emptyC kN.can (by decide) (hT.below hb) h196) ?_
      rintro e w' ⟨rfl, hb'⟩
      exact ⟨_, rfl, ask rfl (congrArg Value.bool (pl_none ia la)) hb'⟩
    have st24 : AsStep Tryz.prog ops20 Q a0 W0 D20 (tb20 U1 X1 U2 X2 ia ib la lb) 24 := by
      refine as_step q20_24 rfl ?_
      intro a w o hop hf hb hd
      have h193 : a.eval (.tmp 193) = (.bool true) := hd 193 (by decide)
      have h197 : a.eval (.tmp 197) = (.bool true) := hd 197 (by decide)
      exact ow_pickT hop h193 h197 (ask0 rfl rfl)
    have st25 : AsStep Tryz.prog ops20 Q a0 W0 D20 (tb20 U1 X1 U2 X2 ia ib la lb) 25 := by
      refine as_step q20_25 rfl ?_
      intro a w o hop hf hb hd
      have h198 : a.eval (.tmp 198) = (.bool true) := hd 198 (by decide)
      exact ow_assign hop h198 (ask0 rfl rfl)
    exact lt_succ_of (lt_succ_of (lt_succ_of (lt_succ_of (lt_succ_of (lt_succ_of (lt_succ_of (lt_succ_of (lt_succ_of (lt_succ_of (lt_succ_of (lt_succ_of (lt_succ_of (lt_succ_of (lt_succ_of (lt_succ_of (lt_succ_of (lt_succ_of (lt_succ_of (lt_succ_of (lt_succ_of (lt_succ_of (lt_succ_of (lt_succ_of (lt_succ_of (lt_succ_of (lt_zero_of) st0) st1) st2) st3) st4) st5) st6) st7) st8) st9) st10) st11) st12) st13) st14) st15) st16) st17) st18) st19) st20) st21) st22) st23) st24) st25
  · intro a w hf hb hall _
    rw [hf.laid (by rw [hsz]; decide)]
    exact hQ _ w hb (hall 6 (by decide))

end Go.Proofs.YtcbgngkalplafaaGreatDoor
