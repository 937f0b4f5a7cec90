/- slices.Grow of nil and slices.Concat: the parts one behind the other, in a slice of their own. -/
import Derived.Test.YtcbgngkalplafaaGreatDoorC7
import Derived.Laws.AppendOwnNone
import Derived.Shelf.Spec.SlicesGrow
namespace Go.Proofs.YtcbgngkalplafaaGreatDoor
open Go.RowKit Go.Shelf Lin

/-- A slice of slices that reads as L. -/
def Rd2 {α : Type} (enc : α → Value) (w : World) (v : Value) (L : List (List α)) : Prop :=
  ∃ b off c, v = .slice (some ⟨b, off, none⟩) L.length c ∧ ∀ j (h : j < L.length), ∃ u, w.cell? ⟨b, off + j, none⟩ = some u ∧ Rd enc w u L[j]
theorem Rd2.below {α : Type} {enc : α → Value} {w w' : World} {v : Value} {L : List (List α)} (h : Rd2 enc w v L) (hb : Below w.heap.size w w') : Rd2 enc w' v L := by
  obtain ⟨b, off, c, e, h⟩ := h
  refine ⟨b, off, c, e, fun j hj => ?_⟩
  obtain ⟨u, h1, h2⟩ := h j hj
  exact ⟨u, (hb.cell (p := ⟨b, off + j, none⟩) (World.block_lt_of_cell? w _ h1)).trans h1, h2.below hb⟩
def flat {α : Type} (L : List (List α)) (k : Nat) : List α := (L.take k).flatten
theorem flat_succ {α : Type} (L : List (List α)) (k : Nat) (h : k < L.length) : flat L (k + 1) = flat L k ++ L[k] := by
  unfold flat
  rw [List.take_succ_eq_append_getElem h, List.flatten_append]
  simp
theorem flat_le {α : Type} (L : List (List α)) (k : Nat) : (flat L k).length ≤ L.flatten.length := by
  unfold flat
  have h : L.flatten = (L.take k).flatten ++ (L.drop k).flatten := by rw [← List.flatten_append, List.take_append_drop]
  rw [h, List.length_append]; omega
theorem flat_all {α : Type} (L : List (List α)) : flat L L.length = L.flatten := by unfold flat; rw [List.take_length]
theorem src_cells {α : Type} {enc : α → Value} {w : World} {b off n c : Nat} {l : List α} (h : Rd enc w (.slice (some ⟨b, off, none⟩) n c) l) : ∀ j u, (l.map enc)[j]? = some u → w.cell? ((⟨b, off, none⟩ : Addr).add j) = some u := by
  intro j u hu
  rw [List.getElem?_map] at hu
  obtain ⟨x, hx, rfl⟩ := Option.map_eq_some_iff.1 hu
  obtain ⟨hj, rfl⟩ := List.getElem?_eq_some_iff.1 hx
  have hn := h.len
  obtain ⟨-, -, b', off', e, hc⟩ := h.at (by omega)
  cases e
  have := hc j hj
  unfold Addr.add
  split
  · rename_i h0; subst h0; exact this
  · exact this
theorem owns_cut0 {w : World} {B n c : Nat} {e : TypeId} {A : Option Addr} {xs : List Value} (h : w.ownsRow B e 1 (.slice A n c) n xs) : w.ownsRow B e 1 (.slice A 0 c) 0 [] := by
  refine ⟨by simp, ?_⟩
  rcases h.2 with ⟨h1, h2⟩ | ⟨g, cap, cur, h1, hb, hh, h2, h3, h4, h5⟩
  · cases h1; exact .inl ⟨rfl, rfl⟩
  · cases h1; exact .inr ⟨g, c, cur, rfl, hb, hh, Nat.zero_le _, h3, h4, by simp⟩


/-- 'append(buf, xs...)' where buf is a slice of our own and xs reads as l. -/
theorem wpList_append_rd {α : Type} {enc : α → Value} {w : World} {ops : Array Oper} {rest : List Oper} {o : Oper} {a : Act} {Q : Exit → Act → World → Prop} (hgd : o.guard = none) (s x : Operand) (t : TypeId)
    (ho : o.op = .call { callee := .builtin .append, args := #[s, x], argTypes := #[t, t] })
    (base : Nat) (e : TypeId) (i : TypeInfo) (z : Value) (bytes : Nat) (ht : Tryz.prog.underlying t = some (.slice e)) (hi : Tryz.prog.info? e = some i) (hz : i.zero = some z)
    (hsize : i.size = 1) (hby : i.bytes = bytes) (hzs : z.cells.size = 1) (hb16 : bytes ≤ 16)
    (v : Value) (n : Nat) (xs : List Value) (hs : a.eval s = v) (hown : w.ownsRow base e 1 v n xs)
    (hO : ∀ y : α, (enc y).oneCell' = true) (l : List α) (A : Option Addr) (c : Nat) (hx : a.eval x = .slice A l.length c) (hr : Rd enc w (.slice A l.length c) l)
    (hn : n + l.length ≤ 1000000) (hbase : base ≤ w.heap.size)
    (h : ∀ v' w', w'.ownsRow base e 1 v' (n + l.length) (xs ++ l.map enc) → Below base w w' → wpList Tryz.prog ops Q rest (a.put o.dst v') w') : wpList Tryz.prog ops Q (o :: rest) a w := by
  rcases hr.plain with rfl | ⟨b, off, rfl⟩
  · have hl : l = [] := by
      rcases hr with ⟨h1, _⟩ | ⟨_, b, off, c', e', _⟩
      · exact h1
      · cases e'
    subst hl
    refine wpList_plain hgd fun K hK => ?_
    have hrun : (Builtin.append_ #[t, t] o.type #[v, .slice none 0 c]).run Tryz.prog w = .ok v w := by
      rcases hown.2 with ⟨rfl, rfl⟩ | ⟨g, cap, cur, rfl, _, _, hnc, _⟩
      · simp [Builtin.append_, run_underlying ht, sizeOf, typeInfo, hi, Builtin.lenOf, Builtin.firstCells]
      · simp [Builtin.append_, run_underlying ht, sizeOf, typeInfo, hi, Builtin.lenOf, Builtin.firstCells, hnc, storeCells]
    unfold Oper.wp
    simp only [List.length_nil] at hx
    simp [execOp, ho, resolve, invoke, builtin, hs, hx, hrun, Result.andThen]
    exact hK _ _ (h _ _ (by simpa using hown) (Below.refl _ _))
  · refine wpList_append_own w hgd s x t ho base e i z 1 bytes ht hi hz hsize hby hzs (by decide) v n xs hs hown ⟨b, off, none⟩ l.length c (l.map enc) hx (by simp) (src_cells hr) ?_ (by simp only [maxLen]; omega) ?_ hbase ?_
    · intro u hu
      obtain ⟨y, -, rfl⟩ := List.mem_map.1 hu
      exact hO y
    · exact Nat.le_trans (Nat.mul_le_mul hn hb16) (by decide)
    · intro v' w' h1 hg _
      exact h v' w' h1 ((Below.refl base w).grown hg hbase fun k hk => (hown.lt k hk).1)

def grow74_ren : Go.Shelf.Ren := ⟨fun | 4 => 74 | n => n, fun | 22 => 26 | 25 => 3 | n => n, fun | n => n⟩
theorem grow74_lays : Go.Proofs.Lays8.n4 Tryz.prog grow74_ren := {
  mixed := by kernel_rfl
  f4 := ⟨Tryz.f74.name, by decide, Tryz.func74.trans (congrArg some (by kernel_rfl))⟩
  t0 := Tryz.underlying0
  a0 := Tryz.isAgg0
  z0 := Tryz.sizeOf0
  v0 := Tryz.zeroValue0
  t3 := Tryz.underlying3
  a3 := Tryz.isAgg3
  z3 := Tryz.sizeOf3
  v3 := Tryz.zeroValue3
  t4 := Tryz.underlying4
  a4 := Tryz.isAgg4
  z4 := Tryz.sizeOf4
  v4 := Tryz.zeroValue4
  t9 := Tryz.underlying9
  a9 := Tryz.isAgg9
  z9 := Tryz.sizeOf9
  v9 := Tryz.zeroValue9
  t20 := Tryz.underlying20
  a20 := Tryz.isAgg20
  z20 := Tryz.sizeOf20
  v20 := Tryz.zeroValue20
  t22 := Tryz.underlying26
  a22 := Tryz.isAgg26
  z22 := Tryz.sizeOf26
  v22 := Tryz.zeroValue26 }

def grow75_ren : Go.Shelf.Ren := ⟨fun | 4 => 75 | n => n, fun | 22 => 27 | 25 => 47 | n => n, fun | n => n⟩
theorem grow75_lays : Go.Proofs.Lays8.n4 Tryz.prog grow75_ren := {
  mixed := by kernel_rfl
  f4 := ⟨Tryz.f75.name, by decide, Tryz.func75.trans (congrArg some (by kernel_rfl))⟩
  t0 := Tryz.underlying0
  a0 := Tryz.isAgg0
  z0 := Tryz.sizeOf0
  v0 := Tryz.zeroValue0
  t3 := Tryz.underlying3
  a3 := Tryz.isAgg3
  z3 := Tryz.sizeOf3
  v3 := Tryz.zeroValue3
  t4 := Tryz.underlying4
  a4 := Tryz.isAgg4
  z4 := Tryz.sizeOf4
  v4 := Tryz.zeroValue4
  t9 := Tryz.underlying9
  a9 := Tryz.isAgg9
  z9 := Tryz.sizeOf9
  v9 := Tryz.zeroValue9
  t20 := Tryz.underlying20
  a20 := Tryz.isAgg20
  z20 := Tryz.sizeOf20
  v20 := Tryz.zeroValue20
  t22 := Tryz.underlying27
  a22 := Tryz.isAgg27
  z22 := Tryz.sizeOf27
  v22 := Tryz.zeroValue27 }

theorem bdrew1 {B : Nat} {a w : World} (h : Below B a w) : Below B a w.drew := ⟨h.os, h.tape, h.output, h.size, h.block⟩
theorem grow_any (f sl e : Nat) (z : Value) (b : Nat) (hb : b ≤ 16) (i : TypeInfo) (L : Go.Proofs.Lays8.n4 Tryz.prog ⟨fun | 4 => f | n => n, fun | 22 => sl | 25 => e | n => n, fun | n => n⟩) (hi : Tryz.prog.info? e = some i) (hz : i.zero = some z) (hs : i.size = 1) (hy : i.bytes = b) (hzs : z.cells.size = 1) (n : Nat) (hn : n ≤ 1000000) (w : World) :
    Calls Tryz.prog f #[.slice none 0 0, .int .i64 n] w fun e' w' => ∃ v, e' = .returned v ∧ w'.ownsRow w.heap.size e 1 v 0 [] ∧ Below w.heap.size w w' := by
  rcases Nat.eq_zero_or_pos n with rfl | h0
  · refine (Go.Proofs.Any8.slices_Grow_room L none 0 0 0 w (by omega) (by omega) (by omega) (by omega)).mono ?_
    rintro e' w' ⟨rfl, rfl⟩
    exact ⟨_, rfl, World.ownsRow_nil _ _ _ _, Below.refl _ _⟩
  · refine (Go.Proofs.Any8.slices_Grow_grow L i z hi hz (by omega) none 0 0 n [] w (by omega) (by omega) (by subst hy; have : (0 + n) * i.bytes ≤ 1000000 * 16 := Nat.mul_le_mul (by omega) hb; omega) (by omega) (by simp) (fun _ => rfl) (fun a h => by cases h)).mono ?_
    rintro e' w' ⟨rfl, rfl⟩
    have h1 := grownCap_ge w (0 + n) 0 e
    have h2 := grownCap_le_maxLen w (0 + n) 0 e (by simp only [maxLen]; omega)
    refine ⟨_, rfl, World.ownsRow_made w.drew _ _ (Nat.le_refl _) h2 ?_, (bdrew1 (Below.refl _ _)).alloc (Nat.le_refl _) _⟩
    show ([].toArray ++ Builtin.zeroCells z.cells (0 + n - 0) ++ Builtin.zeroCells z.cells (grownCap w (0 + n) 0 e - (0 + n))).size = grownCap w (0 + n) 0 e * 1
    generalize grownCap w (0 + n) 0 e = C at h1
    simp only [Array.size_append, size_zeroCells, hzs, List.size_toArray, List.length_nil]
    omega
theorem growInt_any (n : Nat) (hn : n ≤ 1000000) (w : World) :
    Calls Tryz.prog 74 #[.slice none 0 0, .int .i64 n] w fun e w' => ∃ v, e = .returned v ∧ w'.ownsRow w.heap.size 3 1 v 0 [] ∧ Below w.heap.size w w' := by
  obtain ⟨i3, j1, j2, j3, j4⟩ := info_parts Tryz_info3
  exact grow_any 74 26 3 _ 8 (by omega) i3 grow74_lays j1 j2 j3 j4 rfl n hn w
theorem growName_any (n : Nat) (hn : n ≤ 1000000) (w : World) :
    Calls Tryz.prog 75 #[.slice none 0 0, .int .i64 n] w fun e w' => ∃ v, e = .returned v ∧ w'.ownsRow w.heap.size 47 1 v 0 [] ∧ Below w.heap.size w w' := by
  obtain ⟨i3, j1, j2, j3, j4⟩ := info_parts Tryz_info47
  exact grow_any 75 27 47 _ 16 (by omega) i3 grow75_lays j1 j2 j3 j4 rfl n hn w

set_option maxRecDepth 100000 in
set_option maxHeartbeats 4000000 in
theorem concatInt_any (L : List (List Int)) (hLL : L.length ≤ 1000) (hL : L.flatten.length ≤ 1000000) (u : Value) (w : World) (hu : Rd2 (Value.int .i64) w u L) :
    Calls Tryz.prog 40 #[u] w fun e w' => ∃ v, e = .returned v ∧ w'.ownsRow w.heap.size 3 1 v L.flatten.length (L.flatten.map (Value.int .i64)) ∧ Below w.heap.size w w' := by
  rw [← flat_all]
  obtain ⟨i3, j1, j2, j3, j4⟩ := info_parts Tryz_info3
  have HU := Lib.hid hu
  obtain ⟨b, off, c, rfl, hc⟩ := hu
  clear hc
  go_enter Tryz.func40, Tryz.ntmps40
  go_wp2_with fail
  go_loopw [3, 11] (fun a d wr => ∃ k : Nat, a = .int .i64 ((flat L k).length : Nat) ∧ d = .int .i64 k ∧ k ≤ L.length ∧ Below w.heap.size w wr) (fun _ d _ => L.length - (intOf d).toNat)
  case atStart => exact ⟨0, rfl, rfl, by omega, Below.refl _ _⟩
  case round =>
    obtain ⟨k, rfl, rfl, hk, hb⟩ := hrel
    have hfl := flat_le L k
    by_cases h1 : k < L.length
    · have h1' : (k : Int) < (L.length : Int) := by omega
      obtain ⟨b', off', c', e, hx⟩ := HU.out.below hb
      cases e
      obtain ⟨u, hx, hr⟩ := hx k h1
      obtain ⟨A, c2, rfl, -⟩ := hr.slice
      have hf1 := flat_le L (k + 1)
      have hf2 : (flat L (k + 1)).length = (flat L k).length + L[k].length := by rw [flat_succ L k h1, List.length_append]
      have HF := Lib.hid hf2
      have hw : wrap64 (((flat L k).length : Int) + (L[k].length : Int)) = ((flat L k).length : Int) + (L[k].length : Int) := by unfold wrap64; omega
      have hwk : wrap64 ((k : Int) + 1) = (k : Int) + 1 := by unfold wrap64; omega
      have hneg : ¬ (((flat L k).length : Int) + (L[k].length : Int) < 0) := by omega
      clear hr hf2
      go_wp2_with fail
      go_round
      case rel => exact ⟨k + 1, by rw [HF.out, hw]; rfl, by go_num, by omega, hb⟩
      case measure => simp only [intOf, hwk]; omega
    · have h1' : ¬ (k : Int) < (L.length : Int) := by omega
      obtain rfl : k = L.length := by omega
      go_wp2_with fail
      refine (growInt_any _ (by omega) wr).mono ?_
      rintro e w2 ⟨v2, rfl, ho2, hb2⟩
      obtain ⟨A2, c2, rfl⟩ := own_slice' ho2
      have hbw := below_then hb hb.size hb2
      have hsz2 := hb.size
      go_wp2_with fail
      go_loopw [6, 27] (fun a d wr => ∃ (k : Nat) (v : Value), a = v ∧ d = .int .i64 k ∧ k ≤ L.length ∧ wr.ownsRow w.heap.size 3 1 v (flat L k).length ((flat L k).map (Value.int .i64)) ∧ Below w.heap.size w wr) (fun _ d _ => L.length - (intOf d).toNat)
      case atStart => exact ⟨0, _, rfl, rfl, by omega, owns_at ho2 hb.size, hbw⟩
      case round =>
        obtain ⟨k, v, rfl, rfl, hk, hown, hb⟩ := hrel
        obtain ⟨A4, c4, rfl⟩ := own_slice' hown
        have HOW := Lib.hid hown
        have hsz := hb.size
        clear hown
        by_cases h1 : k < L.length
        · have h1' : (k : Int) < (L.length : Int) := by omega
          obtain ⟨b', off', c', e, hx⟩ := HU.out.below hb
          cases e
          obtain ⟨u, hx, hr⟩ := hx k h1
          obtain ⟨A, c2, rfl, -⟩ := hr.slice
          have hf1 := flat_le L (k + 1)
          have hf2 : (flat L (k + 1)).length = (flat L k).length + L[k].length := by rw [flat_succ L k h1, List.length_append]
          have HF := Lib.hid (show flat L (k + 1) = flat L k ++ L[k] from flat_succ L k h1)
          have HN := Lib.hid (show (flat L k).length + L[k].length ≤ 1000000 by omega)
          have hwk : wrap64 ((k : Int) + 1) = (k : Int) + 1 := by unfold wrap64; omega
          have HR := Lib.hid hr
          clear hr hf2 hf1
          go_wp2_with (at_builtin; refine wpList_append_rd rfl _ _ 26 rfl w.heap.size 3 i3 (.int .i64 0) 8 Tryz.underlying26 j1 j2 j3 j4 rfl (by decide) _ _ _ rfl HOW.out (fun _ => rfl) L[k] A c2 rfl HR.out HN.out hsz ?_; intro v' w3 hown' hb3)
          go_round
          case rel =>
            refine ⟨k + 1, v', rfl, by go_num, by omega, ?_, hb.trans hb3⟩
            rw [HF.out, List.length_append, List.map_append]; exact hown'
          case measure => simp only [intOf, hwk]; omega
        · have h1' : ¬ (k : Int) < (L.length : Int) := by omega
          obtain rfl : k = L.length := by omega
          go_wp2_with fail
          go_ret
          exact ⟨_, rfl, HOW.out, hb⟩

set_option maxRecDepth 100000 in
set_option maxHeartbeats 4000000 in
theorem concatName_any (L : List (List ByteArray)) (hLL : L.length ≤ 1000) (hL : L.flatten.length ≤ 1000000) (u : Value) (w : World) (hu : Rd2 Value.string w u L) :
    Calls Tryz.prog 41 #[u] w fun e w' => ∃ v, e = .returned v ∧ w'.ownsRow w.heap.size 47 1 v L.flatten.length (L.flatten.map Value.string) ∧ Below w.heap.size w w' := by
  rw [← flat_all]
  obtain ⟨i3, j1, j2, j3, j4⟩ := info_parts Tryz_info47
  have HU := Lib.hid hu
  obtain ⟨b, off, c, rfl, hc⟩ := hu
  clear hc
  go_enter Tryz.func41, Tryz.ntmps41
  go_wp2_with fail
  go_loopw [3, 11] (fun a d wr => ∃ k : Nat, a = .int .i64 ((flat L k).length : Nat) ∧ d = .int .i64 k ∧ k ≤ L.length ∧ Below w.heap.size w wr) (fun _ d _ => L.length - (intOf d).toNat)
  case atStart => exact ⟨0, rfl, rfl, by omega, Below.refl _ _⟩
  case round =>
    obtain ⟨k, rfl, rfl, hk, hb⟩ := hrel
    have hfl := flat_le L k
    by_cases h1 : k < L.length
    · have h1' : (k : Int) < (L.length : Int) := by omega
      obtain ⟨b', off', c', e, hx⟩ := HU.out.below hb
      cases e
      obtain ⟨u, hx, hr⟩ := hx k h1
      obtain ⟨A, c2, rfl, -⟩ := hr.slice
      have hf1 := flat_le L (k + 1)
      have hf2 : (flat L (k + 1)).length = (flat L k).length + L[k].length := by rw [flat_succ L k h1, List.length_append]
      have HF := Lib.hid hf2
      have hw : wrap64 (((flat L k).length : Int) + (L[k].length : Int)) = ((flat L k).length : Int) + (L[k].length : Int) := by unfold wrap64; omega
      have hwk : wrap64 ((k : Int) + 1) = (k : Int) + 1 := by unfold wrap64; omega
      have hneg : ¬ (((flat L k).length : Int) + (L[k].length : Int) < 0) := by omega
      clear hr hf2
      go_wp2_with fail
      go_round
      case rel => exact ⟨k + 1, by rw [HF.out, hw]; rfl, by go_num, by omega, hb⟩
      case measure => simp only [intOf, hwk]; omega
    · have h1' : ¬ (k : Int) < (L.length : Int) := by omega
      obtain rfl : k = L.length := by omega
      go_wp2_with fail
      refine (growName_any _ (by omega) wr).mono ?_
      rintro e w2 ⟨v2, rfl, ho2, hb2⟩
      obtain ⟨A2, c2, rfl⟩ := own_slice' ho2
      have hbw := below_then hb hb.size hb2
      have hsz2 := hb.size
      go_wp2_with fail
      go_loopw [6, 27] (fun a d wr => ∃ (k : Nat) (v : Value), a = v ∧ d = .int .i64 k ∧ k ≤ L.length ∧ wr.ownsRow w.heap.size 47 1 v (flat L k).length ((flat L k).map Value.string) ∧ Below w.heap.size w wr) (fun _ d _ => L.length - (intOf d).toNat)
      case atStart => exact ⟨0, _, rfl, rfl, by omega, owns_at ho2 hb.size, hbw⟩
      case round =>
        obtain ⟨k, v, rfl, rfl, hk, hown, hb⟩ := hrel
        obtain ⟨A4, c4, rfl⟩ := own_slice' hown
        have HOW := Lib.hid hown
        have hsz := hb.size
        clear hown
        by_cases h1 : k < L.length
        · have h1' : (k : Int) < (L.length : Int) := by omega
          obtain ⟨b', off', c', e, hx⟩ := HU.out.below hb
          cases e
          obtain ⟨u, hx, hr⟩ := hx k h1
          obtain ⟨A, c2, rfl, -⟩ := hr.slice
          have hf1 := flat_le L (k + 1)
          have hf2 : (flat L (k + 1)).length = (flat L k).length + L[k].length := by rw [flat_succ L k h1, List.length_append]
          have HF := Lib.hid (show flat L (k + 1) = flat L k ++ L[k] from flat_succ L k h1)
          have HN := Lib.hid (show (flat L k).length + L[k].length ≤ 1000000 by omega)
          have hwk : wrap64 ((k : Int) + 1) = (k : Int) + 1 := by unfold wrap64; omega
          have HR := Lib.hid hr
          clear hr hf2 hf1
          go_wp2_with (at_builtin; refine wpList_append_rd rfl _ _ 27 rfl w.heap.size 47 i3 (.string ByteArray.empty) 16 Tryz.underlying27 j1 j2 j3 j4 rfl (by decide) _ _ _ rfl HOW.out (fun _ => rfl) L[k] A c2 rfl HR.out HN.out hsz ?_; intro v' w3 hown' hb3)
          go_round
          case rel =>
            refine ⟨k + 1, v', rfl, by go_num, by omega, ?_, hb.trans hb3⟩
            rw [HF.out, List.length_append, List.map_append]; exact hown'
          case measure => simp only [intOf, hwk]; omega
        · have h1' : ¬ (k : Int) < (L.length : Int) := by omega
          obtain rfl : k = L.length := by omega
          go_wp2_with fail
          go_ret
          exact ⟨_, rfl, HOW.out, hb⟩
end Go.Proofs.YtcbgngkalplafaaGreatDoor
