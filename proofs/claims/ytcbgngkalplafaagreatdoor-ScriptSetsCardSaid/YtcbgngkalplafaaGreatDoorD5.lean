/- Contains that only draws; the closures of Minus; slices.DeleteFunc. -/
import Derived.Test.YtcbgngkalplafaaGreatDoorD4
namespace Go.Proofs.YtcbgngkalplafaaGreatDoor
open Go.RowKit Go.Shelf Lin

/-- Only drawn. -/
def Drn (w w' : World) : Prop := ∃ q, w' = w.drewN q
theorem Drn.refl (w : World) : Drn w w := ⟨0, rfl⟩
theorem Drn.more {w w' : World} (h : Drn w w') (n : Nat) : Drn w (w'.drewN n) := by
  obtain ⟨q, rfl⟩ := h
  exact ⟨q + n, by unfold World.drewN; simp [Nat.add_assoc]⟩
theorem Drn.trans {w w' w2 : World} (h : Drn w w') (k : Drn w' w2) : Drn w w2 := by
  obtain ⟨q, rfl⟩ := k
  exact h.more q
theorem Rd.dr {α : Type} {enc : α → Value} {w w' : World} {v : Value} {l : List α} (h : Rd enc w v l) (hd : Drn w w') : Rd enc w' v l := by
  obtain ⟨q, rfl⟩ := hd
  exact h.drewN q

set_option maxRecDepth 100000 in
set_option maxHeartbeats 4000000 in
theorem indexInt_dr (l : List Int) (n : Int) (u : Value) (w : World) (hu : Rd (Value.int .i64) w u l) :
    Calls Tryz.prog 69 #[u, .int .i64 n] w fun e w' => e = .returned (.int .i64 (ixOf n l)) ∧ Drn w w' := by
  obtain ⟨A, c, rfl, hl⟩ := hu.slice
  have HU := Lib.hid hu
  have HI := Lib.hid (show ixOf n l = if at1 n l < l.length then (at1 n l : Int) else -1 from rfl)
  generalize ixOf n l = r at HI ⊢
  clear hu
  go_enter Tryz.func69, Tryz.ntmps69
  go_wp2
  go_loopw [8] (fun a wr => ∃ j : Nat, a = .int .i64 j ∧ j ≤ at1 n l ∧ Drn w wr) (fun a _ => l.length - (intOf a).toNat)
  case atStart => exact ⟨0, rfl, by omega, by repeat' (first | exact Drn.refl _ | apply Drn.more)⟩
  case round =>
    obtain ⟨j, rfl, hj, hb⟩ := hrel
    have hc := at1_le n l
    by_cases h1 : j < l.length
    · have h1' : (j : Int) < (l.length : Int) := by omega
      obtain ⟨-, -, b, off, rfl, hx⟩ := (HU.out.dr hb).at (by omega)
      have hx := hx j h1
      by_cases h3 : j < at1 n l
      · have he : (n == l[j]) = false := by
          have := at1_lt n l j h3 h1
          simpa using fun h => this h.symm
        go_wp2
        repeat (go_quiet (fail); try go_wp2)
        go_round
        case rel => exact ⟨j + 1, by go_num, by omega, by repeat' (first | exact hb | apply Drn.more)⟩
        case measure => simp [intOf]; omega
      · obtain rfl : j = at1 n l := by omega
        have he : (n == l[at1 n l]) = true := by simpa using (at1_at n l h1).symm
        have HN := Lib.hid (show r = (at1 n l : Int) by rw [HI.out, if_pos h1])
        go_wp2
        repeat (go_quiet (fail); try go_wp2)
        go_ret
        exact ⟨by rw [HN.out]; rfl, by repeat' (first | exact hb | apply Drn.more)⟩
    · have h1' : ¬ (j : Int) < (l.length : Int) := by omega
      have HN := Lib.hid (show r = -1 by rw [HI.out, if_neg (by omega)])
      go_wp2
      repeat (go_quiet (fail); try go_wp2)
      go_ret
      exact ⟨by rw [HN.out]; rfl, by repeat' (first | exact hb | apply Drn.more)⟩

set_option maxRecDepth 100000 in
set_option maxHeartbeats 4000000 in
theorem indexName_dr (l : List ByteArray) (n : ByteArray) (u : Value) (w : World) (hu : Rd Value.string w u l) :
    Calls Tryz.prog 77 #[u, .string n] w fun e w' => e = .returned (.int .i64 (ixOf n l)) ∧ Drn w w' := by
  obtain ⟨A, c, rfl, hl⟩ := hu.slice
  have HU := Lib.hid hu
  have HI := Lib.hid (show ixOf n l = if at1 n l < l.length then (at1 n l : Int) else -1 from rfl)
  generalize ixOf n l = r at HI ⊢
  clear hu
  go_enter Tryz.func77, Tryz.ntmps77
  go_wp2
  go_loopw [8] (fun a wr => ∃ j : Nat, a = .int .i64 j ∧ j ≤ at1 n l ∧ Drn w wr) (fun a _ => l.length - (intOf a).toNat)
  case atStart => exact ⟨0, rfl, by omega, by repeat' (first | exact Drn.refl _ | apply Drn.more)⟩
  case round =>
    obtain ⟨j, rfl, hj, hb⟩ := hrel
    have hc := at1_le n l
    by_cases h1 : j < l.length
    · have h1' : (j : Int) < (l.length : Int) := by omega
      obtain ⟨-, -, b, off, rfl, hx⟩ := (HU.out.dr hb).at (by omega)
      have hx := hx j h1
      by_cases h3 : j < at1 n l
      · have he : (n.toList == l[j].toList) = false := by
          have := at1_lt n l j h3 h1
          rw [str_eq]
          simpa using fun h => this h.symm
        go_wp2
        repeat (go_quiet (fail); try go_wp2)
        go_round
        case rel => exact ⟨j + 1, by go_num, by omega, by repeat' (first | exact hb | apply Drn.more)⟩
        case measure => simp [intOf]; omega
      · obtain rfl : j = at1 n l := by omega
        have he : (n.toList == l[at1 n l].toList) = true := by rw [str_eq]; simpa using (at1_at n l h1).symm
        have HN := Lib.hid (show r = (at1 n l : Int) by rw [HI.out, if_pos h1])
        go_wp2
        repeat (go_quiet (fail); try go_wp2)
        go_ret
        exact ⟨by rw [HN.out]; rfl, by repeat' (first | exact hb | apply Drn.more)⟩
    · have h1' : ¬ (j : Int) < (l.length : Int) := by omega
      have HN := Lib.hid (show r = -1 by rw [HI.out, if_neg (by omega)])
      go_wp2
      repeat (go_quiet (fail); try go_wp2)
      go_ret
      exact ⟨by rw [HN.out]; rfl, by repeat' (first | exact hb | apply Drn.more)⟩

set_option maxRecDepth 100000 in
set_option maxHeartbeats 4000000 in
theorem containsInt_dr (l : List Int) (n : Int) (u : Value) (w : World) (hu : Rd (Value.int .i64) w u l) :
    Calls Tryz.prog 34 #[u, .int .i64 n] w fun e w' => e = .returned (.bool (hasB n l)) ∧ Drn w w' := by
  have HH := Lib.hid (indexInt_dr l n u w hu)
  obtain ⟨A, c, rfl, hl⟩ := hu.slice
  rw [← ixOf_nonneg n l]
  generalize ixOf n l = r at HH ⊢
  clear hu
  go_enter Tryz.func34, Tryz.ntmps34
  go_wp2_with fail
  refine HH.out.mono ?_
  rintro e w1 ⟨rfl, hb1⟩
  go_wp2
  all_goals go_ret
  all_goals exact ⟨by simp_all, by repeat' (first | exact hb1 | apply Drn.more)⟩

set_option maxRecDepth 100000 in
set_option maxHeartbeats 4000000 in
theorem containsName_dr (l : List ByteArray) (n : ByteArray) (u : Value) (w : World) (hu : Rd Value.string w u l) :
    Calls Tryz.prog 46 #[u, .string n] w fun e w' => e = .returned (.bool (hasB n l)) ∧ Drn w w' := by
  have HH := Lib.hid (indexName_dr l n u w hu)
  obtain ⟨A, c, rfl, hl⟩ := hu.slice
  rw [← ixOf_nonneg n l]
  generalize ixOf n l = r at HH ⊢
  clear hu
  go_enter Tryz.func46, Tryz.ntmps46
  go_wp2_with fail
  refine HH.out.mono ?_
  rintro e w1 ⟨rfl, hb1⟩
  go_wp2
  all_goals go_ret
  all_goals exact ⟨by simp_all, by repeat' (first | exact hb1 | apply Drn.more)⟩


set_option maxRecDepth 100000 in
set_option maxHeartbeats 4000000 in
theorem minusc43_any (m : List Int) (n : Int) (B : Nat) (u x : Value) (w : World) (hB : w.heap[B]? = some (.cells #[u, x] 29 (0, 0))) (hu : Rd (Value.int .i64) w u m) :
    Calls Tryz.prog 43 #[.int .i64 n, .pointer (some ⟨B, 0, none⟩)] w fun e w' => e = .returned (.bool (hasB n m)) ∧ Drn w w' := by
  have hk := cell_of_heap hB 0 _ rfl
  have HH := Lib.hid (containsInt_dr m n u w hu)
  clear hu hB
  go_enter Tryz.func43, Tryz.ntmps43
  go_wp2_with fail
  refine HH.out.mono ?_
  rintro e w1 ⟨rfl, hb1⟩
  go_wp2_with fail
  go_ret
  exact ⟨rfl, by repeat' (first | exact hb1 | apply Drn.more)⟩

set_option maxRecDepth 100000 in
set_option maxHeartbeats 4000000 in
theorem minusc45_any (m : List ByteArray) (n : ByteArray) (B : Nat) (u x : Value) (w : World) (hB : w.heap[B]? = some (.cells #[u, x] 29 (0, 0))) (hu : Rd Value.string w x m) :
    Calls Tryz.prog 45 #[.string n, .pointer (some ⟨B, 0, none⟩)] w fun e w' => e = .returned (.bool (hasB n m)) ∧ Drn w w' := by
  have hk := cell_of_heap hB 1 _ rfl
  have HH := Lib.hid (containsName_dr m n x w hu)
  clear hu hB
  go_enter Tryz.func45, Tryz.ntmps45
  go_wp2_with fail
  refine HH.out.mono ?_
  rintro e w1 ⟨rfl, hb1⟩
  go_wp2_with fail
  go_ret
  exact ⟨rfl, by repeat' (first | exact hb1 | apply Drn.more)⟩

theorem rest_sort {α : Type} [Inhabited α] (enc : α → Value) (w : World) (g off n : Nat) (dk : Array α) (os : Array Obj) : Rest g w.heap.size w (Go.Proofs.sortWorld enc w g off n dk os) := by
  refine ⟨?_, fun i hi hne => ?_⟩
  · simp [Go.Proofs.sortWorld, Sort.grow, Sort.putRow, Sort.mapBlock, Sort.ahead]
  · have hs : (Sort.putRow enc (Sort.ahead w n) g off dk).heap.size = w.heap.size := by simp [Sort.ahead]
    rw [Go.Proofs.sortWorld, Sort.heap_grow_old _ _ (by rw [hs]; exact hi)]
    simp [Sort.putRow, Sort.mapBlock, Sort.ahead, Array.getElem?_modify, Ne.symm hne]

set_option maxRecDepth 100000 in
set_option maxHeartbeats 4000000 in
theorem deleteInt_none (fv : Value) (w : World) : Calls Tryz.prog 42 #[.slice none 0 0, fv] w fun e w' => e = .returned (.slice none 0 0) ∧ w' = w := by
  go_enter Tryz.func42, Tryz.ntmps42
  go_wp2_with fail
  refine (Tryz.slices_IndexFunc_empty_f76 (α := Int) none 0 fv w).mono ?_
  rintro e w1 ⟨rfl, rfl⟩
  go_wp2_with fail
  go_ret
  exact ⟨rfl, rfl⟩
/-- At most one row of elements of type e, of blocks from R on, was turned. -/
def Upd (R : Nat) (e : TypeId) (w w' : World) : Prop := w' = w ∨ ∃ g cur, R ≤ g ∧ w.heap[g]? = some (.cells cur e (0, 0)) ∧ Rest g w.heap.size w w'
theorem Upd.owns {R C n : Nat} {e e' : TypeId} {w w' : World} {v : Value} {xs : List Value} (h : Upd R e w w') (ho : w.ownsRow C e' 1 v n xs) (hne : e ≠ e') : w'.ownsRow C e' 1 v n xs := by
  rcases h with rfl | ⟨g, cur, hR, hg, hr⟩
  · exact ho
  · refine ⟨ho.1, ?_⟩
    rcases ho.2 with h2 | ⟨k, cap, cur', e1, hB, hh, r⟩
    · exact .inl h2
    · refine .inr ⟨k, cap, cur', e1, hB, (hr.2 k (Array.getElem?_eq_some_iff.1 hh).1 ?_).trans hh, r⟩
      rintro rfl
      rw [hg] at hh
      cases hh
      exact hne rfl
theorem deleteInt_any (l m : List Int) (hl : l.length ≤ 1000000) (R C B : Nat) (u x v : Value) (w : World) (hB : w.heap[B]? = some (.cells #[u, x] 29 (0, 0))) (hBR : B < R)
    (hv : w.ownsRow R 3 1 v l.length (l.map (Value.int .i64))) (hu : w.ownsRow C 3 1 u m.length (m.map (Value.int .i64))) (hvC : ∀ k, v.ownBlock = some k → k < C) :
    Calls Tryz.prog 42 #[v, .func (.func 43) #[] #[.pointer (some ⟨B, 0, none⟩)]] w fun e w' => ∃ v', e = .returned v' ∧ w'.ownsRow R 3 1 v' (l.filter fun n => !hasB n m).length ((l.filter fun n => !hasB n m).map (Value.int .i64)) ∧ Upd R 3 w w' ∧ Below R w w' := by
  by_cases hn : v = .slice none 0 0
  · subst hn
    have h0 : l = [] := by
      rcases hv.2 with ⟨_, h⟩ | ⟨g, cap, cur, e, _⟩
      · exact List.eq_nil_of_length_eq_zero h
      · cases e
    subst h0
    refine (deleteInt_none _ w).mono ?_
    rintro e w' ⟨rfl, rfl⟩
    exact ⟨_, rfl, World.ownsRow_nil _ _ _ _, .inl rfl, Below.refl _ _⟩
  · have hv2 := hv
    obtain ⟨g, cap, rfl, hg, hlt, hcap, hmax, hlen, hH⟩ := Lib.holds_of_ownsRow hv2 hn
    have hgC : g < C := hvC g rfl
    have hcur : ∃ cur, w.heap[g]? = some (.cells cur 3 (0, 0)) := by
      rcases hv.2 with ⟨h, _⟩ | ⟨g', cap', cur, e1, _, hh, _⟩
      · cases h
      · cases e1; exact ⟨cur, hh⟩
    have hBlt : B < w.heap.size := (Array.getElem?_eq_some_iff.1 hB).1
    have hcall : ∀ (W : World) (n : Int), Rest g w.heap.size w W → Calls Tryz.prog 43 #[.int .i64 n, .pointer (some ⟨B, 0, none⟩)] W fun e w' => e = .returned (.bool (hasB n m)) ∧ Drn W w' := fun W n hr =>
      minusc43_any m n B u x W ((hr.2 B hBlt (by omega)).trans hB) (Rd.of_own (e := 3) (hr.owns hu hgC))
    have eg : ∀ args w, (callFunc 43 args).run Tryz.prog w = .ok (.enter 43 args) w := enters_of Tryz.func43 (by kernel_rfl) rfl
    have hs := Tryz.slices_DeleteFunc_f42 (α := Int) (Value.int .i64) (fun _ => rfl) (fun n : Int => hasB n m) 43 #[.pointer (some ⟨B, 0, none⟩)] eg 0 Tryz.zeroValue3 g 0 cap l.toArray w
      (fun W n hb => hcall W n ((Rest.refl g _ w).below hb)) (fun k os dk n _ => hcall _ n (rest_sort _ w g 0 k dk os)) hH (by simp; omega) (by simpa using hcap)
    rw [List.size_toArray] at hs
    refine hs.mono ?_
    rintro e w' ⟨rfl, q, rfl⟩
    have hle : (l.filter fun n => !hasB n m).length ≤ l.length := List.length_filter_le _ _
    refine ⟨_, rfl, ?_, .inr ⟨g, hcur.choose, hg, hcur.choose_spec, ?_, fun i hi hne => ?_⟩, Lib.below_putRow (Below.refl R w) hg⟩
    · have := Lib.ownsRow_putRow (q := q) (k := (l.filter fun n => !hasB n m).length) (ys := (l.filter fun n => !hasB n m) ++ List.replicate (l.length - (l.filter fun n => !hasB n m).length) 0) hv (by simp; omega) hle
      rw [List.take_left] at this
      exact this
    · simp [Sort.putRow, Sort.mapBlock, Sort.ahead]
    · simp [Sort.putRow, Sort.mapBlock, Sort.ahead, Array.getElem?_modify, Ne.symm hne]
set_option maxRecDepth 100000 in
set_option maxHeartbeats 4000000 in
theorem deleteName_none (fv : Value) (w : World) : Calls Tryz.prog 44 #[.slice none 0 0, fv] w fun e w' => e = .returned (.slice none 0 0) ∧ w' = w := by
  go_enter Tryz.func44, Tryz.ntmps44
  go_wp2_with fail
  refine (Tryz.slices_IndexFunc_empty_f73 (α := Nm) none 0 fv w).mono ?_
  rintro e w1 ⟨rfl, rfl⟩
  go_wp2_with fail
  go_ret
  exact ⟨rfl, rfl⟩
theorem deleteName_any (l m : List Nm) (hl : l.length ≤ 1000000) (R C B : Nat) (u x v : Value) (w : World) (hB : w.heap[B]? = some (.cells #[u, x] 29 (0, 0))) (hBR : B < R)
    (hv : w.ownsRow R 47 1 v l.length (l.map encN)) (hu : w.ownsRow C 47 1 x m.length (m.map encN)) (hvC : ∀ k, v.ownBlock = some k → k < C) :
    Calls Tryz.prog 44 #[v, .func (.func 45) #[] #[.pointer (some ⟨B, 0, none⟩)]] w fun e w' => ∃ v', e = .returned v' ∧ w'.ownsRow R 47 1 v' (l.filter fun n => !hasB n.1 (m.map fun a : Nm => a.1)).length ((l.filter fun n => !hasB n.1 (m.map fun a : Nm => a.1)).map encN) ∧ Upd R 47 w w' ∧ Below R w w' := by
  by_cases hn : v = .slice none 0 0
  · subst hn
    have h0 : l = [] := by
      rcases hv.2 with ⟨_, h⟩ | ⟨g, cap, cur, e, _⟩
      · exact List.eq_nil_of_length_eq_zero h
      · cases e
    subst h0
    refine (deleteName_none _ w).mono ?_
    rintro e w' ⟨rfl, rfl⟩
    exact ⟨_, rfl, World.ownsRow_nil _ _ _ _, .inl rfl, Below.refl _ _⟩
  · have hv2 := hv
    obtain ⟨g, cap, rfl, hg, hlt, hcap, hmax, hlen, hH⟩ := Lib.holds_of_ownsRow hv2 hn
    have hgC : g < C := hvC g rfl
    have hcur : ∃ cur, w.heap[g]? = some (.cells cur 47 (0, 0)) := by
      rcases hv.2 with ⟨h, _⟩ | ⟨g', cap', cur, e1, _, hh, _⟩
      · cases h
      · cases e1; exact ⟨cur, hh⟩
    have hBlt : B < w.heap.size := (Array.getElem?_eq_some_iff.1 hB).1
    have hcall : ∀ (W : World) (n : Nm), Rest g w.heap.size w W → Calls Tryz.prog 45 #[.string n.1, .pointer (some ⟨B, 0, none⟩)] W fun e w' => e = .returned (.bool (hasB n.1 (m.map fun a : Nm => a.1))) ∧ Drn W w' := fun W n hr =>
      minusc45_any (m.map (·.1)) n.1 B u x W ((hr.2 B hBlt (by omega)).trans hB) (rd_nms (hr.owns hu hgC))
    have eg : ∀ args w, (callFunc 45 args).run Tryz.prog w = .ok (.enter 45 args) w := enters_of Tryz.func45 (by kernel_rfl) rfl
    have hs := Tryz.slices_DeleteFunc_f44 (α := Nm) encN (fun _ => rfl) (fun n : Nm => hasB n.1 (m.map fun a : Nm => a.1)) 45 #[.pointer (some ⟨B, 0, none⟩)] eg default Tryz.zeroValue47 g 0 cap l.toArray w
      (fun W n hb => hcall W n ((Rest.refl g _ w).below hb)) (fun k os dk n _ => hcall _ n (rest_sort _ w g 0 k dk os)) hH (by simp; omega) (by simpa using hcap)
    rw [List.size_toArray] at hs
    refine hs.mono ?_
    rintro e w' ⟨rfl, q, rfl⟩
    have hle : (l.filter fun n => !hasB n.1 (m.map fun a : Nm => a.1)).length ≤ l.length := List.length_filter_le _ _
    refine ⟨_, rfl, ?_, .inr ⟨g, hcur.choose, hg, hcur.choose_spec, ?_, fun i hi hne => ?_⟩, Lib.below_putRow (Below.refl R w) hg⟩
    · have := Lib.ownsRow_putRow (q := q) (k := (l.filter fun n => !hasB n.1 (m.map fun a : Nm => a.1)).length) (ys := (l.filter fun n => !hasB n.1 (m.map fun a : Nm => a.1)) ++ List.replicate (l.length - (l.filter fun n => !hasB n.1 (m.map fun a : Nm => a.1)).length) default) hv (by simp; omega) hle
      rw [List.take_left] at this
      exact this
    · simp [Sort.putRow, Sort.mapBlock, Sort.ahead]
    · simp [Sort.putRow, Sort.mapBlock, Sort.ahead, Array.getElem?_modify, Ne.symm hne]
end Go.Proofs.YtcbgngkalplafaaGreatDoor
