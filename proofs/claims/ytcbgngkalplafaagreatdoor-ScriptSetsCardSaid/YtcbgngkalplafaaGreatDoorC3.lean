/- Contains, Make, Root, roots, rooted. -/
import Derived.Test.YtcbgngkalplafaaGreatDoorC2
import Derived.Test.YtcbgngkalplafaaGreatDoorB7
import Derived.Lib.ItoaLen
import Derived.Handy
namespace Go.Proofs.YtcbgngkalplafaaGreatDoor
open Go.RowKit Go.Shelf

/-- Where n lies; -1 if nowhere. -/
def ixOf {α : Type} [DecidableEq α] (n : α) (l : List α) : Int := if at1 n l < l.length then (at1 n l : Int) else -1
theorem ixOf_nonneg {α : Type} [DecidableEq α] (n : α) (l : List α) : decide (0 ≤ ixOf n l) = hasB n l := by
  have h := at1_mem n l
  unfold ixOf
  by_cases e : at1 n l < l.length
  · rw [if_pos e, h.1 e]; simp
  · have h2 : hasB n l = false := by rw [← Bool.not_eq_true, ← h]; exact e
    rw [if_neg e, h2]; rfl

set_option maxRecDepth 100000 in
set_option maxHeartbeats 4000000 in
theorem indexInt_any (l : List Int) (n : Int) (u : Value) (w : World) (hu : Rd (Value.int .i64) w u l) :
    Calls Tryz.prog 69 #[u, .int .i64 n] w fun e w' => e = .returned (.int .i64 (ixOf n l)) ∧ Below w.heap.size w w' := by
  obtain ⟨A, c, rfl, hl⟩ := hu.slice
  have HU := Lib.hid hu
  have HI := Lib.hid (show ixOf n l = if at1 n l < l.length then (at1 n l : Int) else -1 from rfl)
  generalize ixOf n l = r at HI ⊢
  clear hu
  go_enter Tryz.func69, Tryz.ntmps69
  go_wp2
  go_loopw [8] (fun a wr => ∃ j : Nat, a = .int .i64 j ∧ j ≤ at1 n l ∧ Below w.heap.size w wr) (fun a _ => l.length - (intOf a).toNat)
  case atStart => exact ⟨0, rfl, by omega, by repeat' (first | exact Below.refl _ _ | apply bdrew)⟩
  case round =>
    obtain ⟨j, rfl, hj, hb⟩ := hrel
    have hc := at1_le n l
    by_cases h1 : j < l.length
    · have h1' : (j : Int) < (l.length : Int) := by omega
      obtain ⟨-, -, b, off, rfl, hx⟩ := (HU.out.below hb).at (by omega)
      have hx := hx j h1
      by_cases h3 : j < at1 n l
      · have he : (n == l[j]) = false := by
          have := at1_lt n l j h3 h1
          simpa using fun h => this h.symm
        go_wp2
        repeat (go_quiet (fail); try go_wp2)
        go_round
        case rel => exact ⟨j + 1, by go_num, by omega, by repeat' (first | exact hb | apply bdrew)⟩
        case measure => simp [intOf]; omega
      · obtain rfl : j = at1 n l := by omega
        have he : (n == l[at1 n l]) = true := by simpa using (at1_at n l h1).symm
        have HN := Lib.hid (show r = (at1 n l : Int) by rw [HI.out, if_pos h1])
        go_wp2
        repeat (go_quiet (fail); try go_wp2)
        go_ret
        exact ⟨by rw [HN.out]; rfl, by repeat' (first | exact hb | apply bdrew)⟩
    · have h1' : ¬ (j : Int) < (l.length : Int) := by omega
      have HN := Lib.hid (show r = -1 by rw [HI.out, if_neg (by omega)])
      go_wp2
      repeat (go_quiet (fail); try go_wp2)
      go_ret
      exact ⟨by rw [HN.out]; rfl, by repeat' (first | exact hb | apply bdrew)⟩

set_option maxRecDepth 100000 in
set_option maxHeartbeats 4000000 in
theorem indexName_any (l : List ByteArray) (n : ByteArray) (u : Value) (w : World) (hu : Rd Value.string w u l) :
    Calls Tryz.prog 77 #[u, .string n] w fun e w' => e = .returned (.int .i64 (ixOf n l)) ∧ Below w.heap.size w w' := by
  obtain ⟨A, c, rfl, hl⟩ := hu.slice
  have HU := Lib.hid hu
  have HI := Lib.hid (show ixOf n l = if at1 n l < l.length then (at1 n l : Int) else -1 from rfl)
  generalize ixOf n l = r at HI ⊢
  clear hu
  go_enter Tryz.func77, Tryz.ntmps77
  go_wp2
  go_loopw [8] (fun a wr => ∃ j : Nat, a = .int .i64 j ∧ j ≤ at1 n l ∧ Below w.heap.size w wr) (fun a _ => l.length - (intOf a).toNat)
  case atStart => exact ⟨0, rfl, by omega, by repeat' (first | exact Below.refl _ _ | apply bdrew)⟩
  case round =>
    obtain ⟨j, rfl, hj, hb⟩ := hrel
    have hc := at1_le n l
    by_cases h1 : j < l.length
    · have h1' : (j : Int) < (l.length : Int) := by omega
      obtain ⟨-, -, b, off, rfl, hx⟩ := (HU.out.below hb).at (by omega)
      have hx := hx j h1
      by_cases h3 : j < at1 n l
      · have he : (n.toList == l[j].toList) = false := by
          have := at1_lt n l j h3 h1
          rw [str_eq]
          simpa using fun h => this h.symm
        go_wp2
        repeat (go_quiet (fail); try go_wp2)
        go_round
        case rel => exact ⟨j + 1, by go_num, by omega, by repeat' (first | exact hb | apply bdrew)⟩
        case measure => simp [intOf]; omega
      · obtain rfl : j = at1 n l := by omega
        have he : (n.toList == l[at1 n l].toList) = true := by rw [str_eq]; simpa using (at1_at n l h1).symm
        have HN := Lib.hid (show r = (at1 n l : Int) by rw [HI.out, if_pos h1])
        go_wp2
        repeat (go_quiet (fail); try go_wp2)
        go_ret
        exact ⟨by rw [HN.out]; rfl, by repeat' (first | exact hb | apply bdrew)⟩
    · have h1' : ¬ (j : Int) < (l.length : Int) := by omega
      have HN := Lib.hid (show r = -1 by rw [HI.out, if_neg (by omega)])
      go_wp2
      repeat (go_quiet (fail); try go_wp2)
      go_ret
      exact ⟨by rw [HN.out]; rfl, by repeat' (first | exact hb | apply bdrew)⟩

set_option maxRecDepth 100000 in
set_option maxHeartbeats 4000000 in
theorem containsInt_any (l : List Int) (n : Int) (u : Value) (w : World) (hu : Rd (Value.int .i64) w u l) :
    Calls Tryz.prog 34 #[u, .int .i64 n] w fun e w' => e = .returned (.bool (hasB n l)) ∧ Below w.heap.size w w' := by
  have HH := Lib.hid (indexInt_any l n u w hu)
  obtain ⟨A, c, rfl, hl⟩ := hu.slice
  rw [← ixOf_nonneg n l]
  generalize ixOf n l = r at HH ⊢
  clear hu
  go_enter Tryz.func34, Tryz.ntmps34
  go_wp2_with fail
  refine HH.out.mono ?_
  rintro e w1 ⟨rfl, hb1⟩
  go_wp2
  all_goals go_ret
  all_goals exact ⟨by simp_all, by repeat' (first | exact hb1 | apply bdrew)⟩

set_option maxRecDepth 100000 in
set_option maxHeartbeats 4000000 in
theorem containsName_any (l : List ByteArray) (n : ByteArray) (u : Value) (w : World) (hu : Rd Value.string w u l) :
    Calls Tryz.prog 46 #[u, .string n] w fun e w' => e = .returned (.bool (hasB n l)) ∧ Below w.heap.size w w' := by
  have HH := Lib.hid (indexName_any l n u w hu)
  obtain ⟨A, c, rfl, hl⟩ := hu.slice
  rw [← ixOf_nonneg n l]
  generalize ixOf n l = r at HH ⊢
  clear hu
  go_enter Tryz.func46, Tryz.ntmps46
  go_wp2_with fail
  refine HH.out.mono ?_
  rintro e w1 ⟨rfl, hb1⟩
  go_wp2
  all_goals go_ret
  all_goals exact ⟨by simp_all, by repeat' (first | exact hb1 | apply bdrew)⟩

/-- The table of powers of ten lies as it was laid. -/
def TabOk (w : World) : Prop := Lib.TabIs Tryz.prog w "internal/strconv.uint64pow10" .u64 Lib.pow10Tab
theorem TabOk.below {w w' : World} (h : TabOk w) (hb : Below w.heap.size w w') : TabOk w' := by
  unfold TabOk Lib.TabIs World.var? at *
  cases hg : Tryz.prog.globalNamed "internal/strconv.uint64pow10" with
  | none => simp [hg] at h
  | some g =>
    simp only [hg, Option.bind_some] at h ⊢
    have hlt : g < w.heap.size := by
      rcases Nat.lt_or_ge g w.heap.size with h' | h'
      · exact h'
      · rw [Array.getElem?_eq_none h'] at h; simp at h
    rw [hb.block g hlt]
    exact h

theorem decFrom_dig (l : List UInt8) (h : Lin.digs l) : ∀ a : Nat, Lib.decFrom a l = some (l.foldl (fun a c => a * 10 + (c.toNat - 48)) a) := by
  induction l with
  | nil => intro a; rfl
  | cons c l ih =>
    intro a
    have hc := h c (by simp)
    simp only [Lin.isDig, Bool.and_eq_true, decide_eq_true_eq] at hc
    simp only [Lib.decFrom, Lib.digitVal, if_pos hc, List.foldl_cons]
    exact ih (fun x hx => h x (by simp [hx])) _
theorem atoi_said : AtoiSaid := by
  intro t W h1 h2 h3
  have hd : Lin.digs t.data.toList := by
    intro c hc
    obtain ⟨j, hj, rfl⟩ := List.getElem_of_mem hc
    have hl : t.data.toList.length = t.size := by simp
    exact Lin.ndig_lt _ j (by rw [h3]; omega) hj
  have ha : Lib.atoi t.data.toList = some (Lin.dval t.data.toList) := by
    rw [Lin.dval_nval _ hd]
    have hl : t.data.toList.length = t.size := by simp
    cases hc : t.data.toList with
    | nil => rw [hc] at hl; simp at hl; omega
    | cons b r =>
      rw [hc] at hd
      have hb := hd b (by simp)
      simp only [Lin.isDig, Bool.and_eq_true, decide_eq_true_eq] at hb
      have e1 : (b == 45) = false := by
        rw [beq_eq_false_iff_ne]; intro e; subst e; simp at hb
      have e2 : (b == 43) = false := by
        rw [beq_eq_false_iff_ne]; intro e; subst e; simp at hb
      simp only [Lib.atoi, e1, e2, Bool.false_eq_true, if_false, Lib.decNat, List.isEmpty_cons]
      rw [decFrom_dig _ hd]
      rfl
  refine (Tryz.strconv_Atoi t _ (by omega) ha W).mono ?_
  rintro e W' ⟨rfl, s, rfl⟩
  exact ⟨rfl, ⟨rfl, rfl, rfl, by rw [Lib.bytesWorld_size]; omega, fun k hk => Lib.bytesWorld_at_old _ _ _ _ hk⟩⟩

/-- The name of the root process of an input. -/
def rootN (n : Int) : ByteArray := ⟨(Lib.itoa n).toArray⟩
def rootOk (n : Int) : Bool := decide (1 ≤ n) && decide (n ≤ 999999)
theorem rootN_len (n : Int) (h0 : -9223372036854775808 ≤ n) (h1 : n ≤ 9223372036854775807) : (Lib.itoa n).length ≤ 21 := Lib.itoa_length_le n h0 h1
theorem rootN_size (n : Int) (h0 : -9223372036854775808 ≤ n) (h1 : n ≤ 9223372036854775807) : (rootN n).size ≤ 21 := by
  have := rootN_len n h0 h1
  show (Lib.itoa n).toArray.size ≤ 21
  simpa using this
theorem itoa_any (n : Int) (h0 : -9223372036854775808 ≤ n) (h1 : n ≤ 9223372036854775807) (w : World) (hT : TabOk w) :
    Calls Tryz.prog 55 #[.int .i64 n] w fun e w' => e = .returned (.string (rootN n)) ∧ Below w.heap.size w w' := by
  refine (Tryz.strconv_Itoa n h0 h1 w hT).mono ?_
  rintro e w' ⟨rfl, k, os, rfl⟩
  exact ⟨rfl, grow_below (bdrew (Below.refl _ _) _) (Nat.le_refl _) _⟩
theorem Tryz_info9 : (Tryz.prog.info? 9).map (fun i => (i.zero, i.size, i.bytes)) = some (some (.string ByteArray.empty), 1, 16) := by kernel_rfl

set_option maxRecDepth 100000 in
set_option maxHeartbeats 4000000 in
theorem make_one (n : Int) (h1 : 1 ≤ n) (h2 : n ≤ 999999) (b : Nat) (w : World) (hT : TabOk w) (hc : w.cell? ⟨b, 0, none⟩ = some (.int .i64 n)) :
    Calls Tryz.prog 70 #[.slice (some ⟨b, 0, none⟩) 1 1] w fun e w' => e = .returned (.tuple #[.string (rootN n), .int .i64 0]) ∧ Below w.heap.size w w' := by
  have HTT := Lib.hid hT
  clear hT
  obtain ⟨i0, hi, hz0, hz1, hz2⟩ := info_parts Tryz_info9
  have hbw := World.block_lt_of_cell? w _ hc
  have hbw : b < w.heap.size := hbw
  go_enter Tryz.func70, Tryz.ntmps70
  go_wp2_with (at_make; refine wpList_make_full w rfl _ _ 74 rfl w.heap.size 9 i0 (.string ByteArray.empty) 1 Tryz.underlying74 hi hz0 hz1 _ _ _ _ 1 rfl rfl rfl rfl (by rw [hz2]; omega) (by simp [maxLen]) (Nat.le_refl _) ?_; intro w1 hown hgrow)
  have hb1 : Below w.heap.size w w1 := (Below.refl _ _).grown hgrow (Nat.le_refl _) (fun k h => by cases h)
  have HO := Lib.hid hown
  clear hown hgrow
  have HC := Lib.hid hc
  have hB1 := hb1.size
  have hn1 : ¬ n < 1 := by omega
  have hn2 : ¬ 999999 < n := by omega
  clear hc
  go_loopw [15] (fun a wr => ∃ k : Nat, a = .int .i64 k ∧ k ≤ 1 ∧ Below w.heap.size w wr ∧ wr.ownsRow w.heap.size 9 1 (.slice (some ⟨w.heap.size, 0, none⟩) 1 1) 1 [.string (if k = 0 then ByteArray.empty else rootN n)]) (fun a _ => 1 - (intOf a).toNat)
  case atStart => exact ⟨0, rfl, by omega, hb1, by have h := HO.out; rwa [show (madeCells (Value.string ByteArray.empty).cells (1 * 1)).toList = [Value.string ByteArray.empty] from toList_madeCells_one (Value.string ByteArray.empty) 1] at h⟩
  case round =>
    obtain ⟨k, rfl, hk, hb, hown⟩ := hrel
    have hcw := (hb.cell (p := ⟨b, 0, none⟩) hbw).trans HC.out
    have HOW := Lib.hid hown
    have hcell := hown.cellAt 0 (by omega)
    have hfroz := hown.frozenAt 0
    clear hown
    by_cases hk0 : k = 0
    · subst hk0
      simp only [List.getElem?_cons_zero] at hcell
      have HI := Lib.hid (itoa_any n (by omega) (by omega) wr (HTT.out.below hb))
      go_wp2_with fail
      refine HI.out.mono ?_
      rintro e w2 ⟨rfl, hb2⟩
      have hb12 := below_then hb hb.size hb2
      have HO2 := Lib.hid (owns_below HOW.out hb2)
      have hcell2 := HO2.out.cellAt 0 (by omega)
      have hfroz2 := HO2.out.frozenAt 0
      simp only [List.getElem?_cons_zero] at hcell2
      clear hcell hfroz
      go_wp2
      go_round
      case rel =>
        obtain ⟨h1, h2⟩ := HO2.out.stored 0 (.string (rootN n))
        exact ⟨1, rfl, by omega, hb12.setCell (Nat.le_refl _) _, h1⟩
      case measure => simp [intOf]
    · obtain rfl : k = 1 := by omega
      simp only [List.getElem?_cons_zero] at hcell
      rw [if_neg (by omega)] at hcell
      have HJ := Lib.hid (Tryz.strings_Join w.heap.size 0 1 [rootN n] ⟨#[46]⟩ wr (by
        intro j x hx
        cases j with
        | zero => simp at hx; subst hx; exact hcell
        | succ j => simp at hx) (World.block_lt_of_cell? wr _ hcell) (by simp) (by simp) (by
        have := rootN_len n (by omega) (by omega)
        simp only [List.map_cons, List.map_nil, Lib.join_one, rootN]
        omega))
      rw [show ([rootN n].map (·.data.toList)) = [Lib.itoa n] from rfl, Lib.join_one] at HJ
      clear hcell hfroz
      go_wp2_with fail
      refine HJ.out.mono ?_
      rintro e w2 ⟨rfl, hb2⟩
      have hb12 := below_then hb hb.size hb2
      go_wp2
      go_ret2
      exact ⟨rfl, hb12⟩

set_option maxRecDepth 100000 in
set_option maxHeartbeats 4000000 in
theorem within3_any (n a b : Int) (w : World) : Calls Tryz.prog 58 #[.int .i64 n, .int .i64 a, .int .i64 b] w fun e w' => e = .returned (.bool (decide (a ≤ n) && decide (n ≤ b))) ∧ Below w.heap.size w w' := by
  generalize hq : (decide (a ≤ n) && decide (n ≤ b)) = r
  have HQ := Lib.hid hq
  clear hq
  by_cases h1 : a ≤ n
  · by_cases h2 : n ≤ b
    · have HR := Lib.hid (show r = true by rw [← HQ.out]; simp [h1, h2])
      go_enter Tryz.func58, Tryz.ntmps58
      go_wp2
      go_ret
      exact ⟨by rw [HR.out]; rfl, by repeat' (first | exact Below.refl _ _ | apply bdrew)⟩
    · have HR := Lib.hid (show r = false by rw [← HQ.out]; simp [h2])
      go_enter Tryz.func58, Tryz.ntmps58
      go_wp2
      go_ret
      exact ⟨by rw [HR.out]; rfl, by repeat' (first | exact Below.refl _ _ | apply bdrew)⟩
  · have HR := Lib.hid (show r = false by rw [← HQ.out]; simp [h1])
    go_enter Tryz.func58, Tryz.ntmps58
    go_wp2
    go_ret
    exact ⟨by rw [HR.out]; rfl, by repeat' (first | exact Below.refl _ _ | apply bdrew)⟩

set_option maxRecDepth 100000 in
set_option maxHeartbeats 4000000 in
theorem root_any (n : Int) (w : World) (hT : TabOk w) :
    Calls Tryz.prog 36 #[.int .i64 n] w fun e w' => ∃ s er, e = .returned (.tuple #[.string s, .int .i64 er]) ∧ Below w.heap.size w w' ∧ ((rootOk n = true ∧ s = rootN n ∧ er = 0) ∨ (rootOk n = false ∧ er = 2)) := by
  have HT := Lib.hid hT
  clear hT
  go_enter Tryz.func36, Tryz.ntmps36
  go_wp2_with fail
  refine (within3_any n 1 999999 w).mono ?_
  rintro e w1 ⟨rfl, hb1⟩
  cases hr : rootOk n with
  | true =>
    have hr' : (decide (1 ≤ n) && decide (n ≤ 999999)) = true := hr
    rw [hr']
    have h12 := hr'
    rw [Bool.and_eq_true, decide_eq_true_eq, decide_eq_true_eq] at h12
    have HR := Lib.hid hr
    clear hr hr'
    go_wp2_with fail
    have hba := hb1.alloc hb1.size (.cells #[.int .i64 n] 3)
    refine (make_one n h12.1 h12.2 w1.heap.size _ (HT.out.below hba) (cellA _ _ _ _ _ rfl)).mono ?_
    rintro e w2 ⟨rfl, hb2⟩
    have hb3 := below_then hba hba.size hb2
    go_wp2
    go_ret2
    exact ⟨_, _, rfl, hb3, .inl ⟨HR.out, rfl, rfl⟩⟩
  | false =>
    have hr' : (decide (1 ≤ n) && decide (n ≤ 999999)) = false := hr
    rw [hr']
    have HR := Lib.hid hr
    clear hr hr'
    go_wp2
    go_ret2
    exact ⟨_, _, rfl, hb1, .inr ⟨HR.out, rfl⟩⟩

/-- The root processes of the numbers. -/
def rootsL (is : List Int) : List ByteArray := (is.filter rootOk).map rootN
def rootsK (is : List Int) (k : Nat) : List ByteArray := ((is.take k).filter rootOk).map rootN
theorem rootsK_succ (is : List Int) (k : Nat) (h : k < is.length) : rootsK is (k + 1) = rootsK is k ++ if rootOk is[k] = true then [rootN is[k]] else [] := by
  unfold rootsK
  rw [List.take_succ_eq_append_getElem h, List.filter_append, List.map_append]
  congr 1
  by_cases e : rootOk is[k] = true <;> simp [e]
theorem rootsK_length (is : List Int) (k : Nat) : (rootsK is k).length ≤ k := by
  unfold rootsK
  rw [List.length_map]
  exact Nat.le_trans (List.length_filter_le _ _) (by simp; omega)
theorem rootsK_all (is : List Int) : rootsK is is.length = rootsL is := by unfold rootsK rootsL; rw [List.take_length]

set_option maxRecDepth 100000 in
set_option maxHeartbeats 4000000 in
theorem roots_any (is : List Int) (hl : is.length ≤ 1000000) (u x : Value) (hx : ∃ A n c, x = .slice A n c) (w : World) (hT : TabOk w) (hu : Rd (Value.int .i64) w u is) :
    Calls Tryz.prog 66 #[.agg #[u, x]] w fun e w' => ∃ v', e = .returned v' ∧ w'.ownsRow w.heap.size 47 1 v' (rootsL is).length ((rootsL is).map Value.string) ∧ Below w.heap.size w w' := by
  obtain ⟨Ax, nx, cx, rfl⟩ := hx
  have hu29 := Tryz.underlying29
  have hb0 := (Below.refl w.heap.size w).alloc (Nat.le_refl _) (.cells #[u, .slice Ax nx cx] 29)
  have HU := Lib.hid (hu.below hb0)
  have HT := Lib.hid (hT.below hb0)
  obtain ⟨A, c, rfl, hlen⟩ := hu.slice
  clear hu hT
  obtain ⟨i0, hi, hz0, hz1, hz2⟩ := info_parts Tryz_info47
  go_enter Tryz.func66, Tryz.ntmps66
  go_wp2_with fail
  have hB0 := hb0.size
  generalize (w.alloc (.cells #[.slice A is.length c, .slice Ax nx cx] 29)) = w0 at hb0 HU HT hB0 ⊢
  go_loopw [3, 11] (fun a b wr => ∃ k : Nat, b = .int .i64 k ∧ k ≤ is.length ∧ wr.ownsRow w0.heap.size 47 1 a (rootsK is k).length ((rootsK is k).map Value.string) ∧ Below w0.heap.size w0 wr) (fun _ b _ => is.length - (intOf b).toNat)
  case atStart => exact ⟨0, rfl, by omega, World.ownsRow_nil _ _ _ _, Below.refl _ _⟩
  case round =>
    obtain ⟨k, rfl, hk, hown, hbz⟩ := hrel
    obtain ⟨A4, c4, rfl⟩ := own_slice' hown
    have HOW := Lib.hid hown
    clear hown
    by_cases h1 : k < is.length
    · have h1' : (k : Int) < (is.length : Int) := by omega
      obtain ⟨-, -, b, off, rfl, hx⟩ := (HU.out.below hbz).at (by omega)
      have hx := hx k h1
      have HS := Lib.hid (rootsK_succ is k h1)
      have HL := Lib.hid (rootsK_length is k)
      have HR := Lib.hid (root_any is[k] wr (HT.out.below hbz))
      go_wp2_with fail
      refine HR.out.mono ?_
      rintro e w2 ⟨s, er, rfl, hb2, (⟨hr, rfl, rfl⟩ | ⟨hr, rfl⟩)⟩
      · have hbz2 := below_then hbz hbz.size hb2
        have HO2 := Lib.hid (owns_below HOW.out hb2)
        have HK := Lib.hid (show rootsK is (k + 1) = rootsK is k ++ [rootN is[k]] by rw [HS.out, if_pos hr])
        have hBz2 := hbz2.size
        clear hr
        go_wp2_with (at_builtin; refine wpList_append_own _ rfl _ _ 27 rfl w0.heap.size 47 i0 (.string ByteArray.empty) 1 16 Tryz.underlying27 hi hz0 hz1 hz2 rfl (by decide) _ _ _ rfl (HO2.out.alloc _) ⟨w2.heap.size, 0, none⟩ 1 1 [.string (rootN is[k])] rfl rfl (cell_one_new _ _ _) (by simp [Value.oneCell']) (by have := HL.out; simp only [maxLen]; omega) (by have := HL.out; omega) (by rw [sizeA]; omega) ?_; intro v' w3 hown' hgrow _)
        have hb3 := below_append HO2.out hBz2 hgrow
        go_round
        case rel =>
          refine ⟨k + 1, by go_num, by omega, ?_, hbz2.trans hb3⟩
          rw [HK.out, List.length_append, List.map_append]; exact hown'
        case measure => simp [intOf]; omega
      · have hbz2 := below_then hbz hbz.size hb2
        have HO2 := Lib.hid (owns_below HOW.out hb2)
        have HK := Lib.hid (show rootsK is (k + 1) = rootsK is k by rw [HS.out, hr]; simp)
        clear hr
        go_wp2
        go_round
        case rel =>
          refine ⟨k + 1, by go_num, by omega, ?_, hbz2⟩
          rw [HK.out]; exact HO2.out
        case measure => simp [intOf]; omega
    · have h1' : ¬ (k : Int) < (is.length : Int) := by omega
      obtain rfl : k = is.length := by omega
      go_wp2
      go_ret
      refine ⟨_, rfl, ?_, below_then hb0 hb0.size hbz⟩
      rw [← rootsK_all]
      exact owns_at HOW.out hB0
end Go.Proofs.YtcbgngkalplafaaGreatDoor
