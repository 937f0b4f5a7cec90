/- few, Script.Input. -/
import Derived.Test.YtcbgngkalplafaaGreatDoorC1
import Derived.Laws.Rows
namespace Go.Proofs.YtcbgngkalplafaaGreatDoor
open Go.RowKit Go.Shelf

def fewB (is : List Int) (ls : List ByteArray) : Bool := decide (is.length ≤ 30) && decide (ls.length ≤ 30) && !longB ls

set_option maxRecDepth 100000 in
set_option maxHeartbeats 4000000 in
theorem few_any (is : List Int) (ls : List ByteArray) (hs : ∀ x ∈ ls, x.size ≤ 9223372036854775807) (u v : Value) (w : World) (hu : Rd (Value.int .i64) w u is) (hv : Rd Value.string w v ls) :
    Calls Tryz.prog 7 #[.agg #[u, v]] w fun e w' => e = .returned (.bool (fewB is ls)) ∧ Below w.heap.size w w' := by
  have hb1 := (Below.refl w.heap.size w).alloc (Nat.le_refl _) (.cells #[u, v] 29)
  have HL := Lib.hid (long_any ls hs v _ (hv.below hb1))
  obtain ⟨A, c, rfl, hl⟩ := hu.slice
  obtain ⟨A', c', rfl, hm⟩ := hv.slice
  clear hu hv hs
  have hu29 := Tryz.underlying29
  by_cases h1 : is.length ≤ 30
  · by_cases h2 : ls.length ≤ 30
    · have h1' : (is.length : Int) ≤ 30 := by omega
      have h2' : (ls.length : Int) ≤ 30 := by omega
      have HF := Lib.hid (show fewB is ls = !longB ls by simp [fewB, h1, h2])
      go_enter Tryz.func7, Tryz.ntmps7
      go_wp2_with fail
      refine HL.out.mono ?_
      rintro e w1 ⟨rfl, hb2⟩
      have hb3 := below_then hb1 hb1.size hb2
      go_wp2
      go_ret
      exact ⟨by rw [HF.out]; rfl, by repeat' (first | exact hb3 | apply bdrew)⟩
    · have h1' : (is.length : Int) ≤ 30 := by omega
      have h2' : ¬ (ls.length : Int) ≤ 30 := by omega
      have HF := Lib.hid (show fewB is ls = false by simp [fewB, h2])
      go_enter Tryz.func7, Tryz.ntmps7
      go_wp2
      go_ret
      exact ⟨by rw [HF.out]; rfl, by repeat' (first | exact hb1 | apply bdrew)⟩
  · have h1' : ¬ (is.length : Int) ≤ 30 := by omega
    have HF := Lib.hid (show fewB is ls = false by simp [fewB, h1])
    go_enter Tryz.func7, Tryz.ntmps7
    go_wp2
    go_ret
    exact ⟨by rw [HF.out]; rfl, by repeat' (first | exact hb1 | apply bdrew)⟩

theorem heapA2 (w : World) (o1 o2 : Obj) : ((w.alloc o1).alloc o2).heap[w.heap.size + 1]? = some o2 := by
  have := heapA (w.alloc o1) o2
  rwa [sizeA] at this
theorem i64_wrap (n : Int) : IntKind.i64.wrap n = wrap64 n := by unfold wrap64; exact IntKind.wrap_i64 n
theorem resultsCT {P : Program} {fn : Func} {p u : Tmp} {ty : TypeId} (h : fn.results = #[.cell p ty, .tmp u]) (tmps : Array Value) (w : World) (g : Nat) (t : TypeId) (cs : Array Value) (fr : Nat × Nat) (d : TypeDesc)
    (hp : tmps.getD p undef = .pointer (some ⟨g, 0, none⟩)) (hg : w.heap[g]? = some (.cells cs t fr))
    (hu : P.underlying ty = some d) (hd : (match d with | .struct _ | .array _ _ => true | _ => false) = true) (hi : (P.info? ty).map (·.size) = some cs.size) :
    (results fn tmps).run P w = .ok (.tuple #[.agg cs, tmps.getD u undef]) w := by
  have hp' : tmps[p]?.getD undef = .pointer (some ⟨g, 0, none⟩) := by simpa using hp
  simp [results, h, hp', asAddr, run_loadVar_row w g t ty cs fr d hg hu hd hi]
theorem Tryz_size38 : (Tryz.prog.info? 38).map (·.size) = some 6 := by kernel_rfl
theorem Tryz_size29 : (Tryz.prog.info? 29).map (·.size) = some 2 := by kernel_rfl
/-- An input at a tick. -/
structure Tm where
  tick : Int
  kind : Int
  num : Int
  frm : ByteArray
  to : ByteArray
  txt : ByteArray
def encT (t : Tm) : Array Value := #[.int .i64 t.tick, .int .i64 t.kind, .int .i64 t.num, .string t.frm, .string t.to, .string t.txt]
/-- The six cells from b, o on. -/
def AtT (w : World) (b o : Nat) (t : Tm) : Prop :=
  w.cell? ⟨b, o, none⟩ = some (.int .i64 t.tick) ∧ w.cell? ⟨b, o + 1, none⟩ = some (.int .i64 t.kind) ∧ w.cell? ⟨b, o + 2, none⟩ = some (.int .i64 t.num) ∧
  w.cell? ⟨b, o + 3, none⟩ = some (.string t.frm) ∧ w.cell? ⟨b, o + 4, none⟩ = some (.string t.to) ∧ w.cell? ⟨b, o + 5, none⟩ = some (.string t.txt)
/-- The slice v of inputs reads as l. -/
def RdT (w : World) (v : Value) (l : List Tm) : Prop :=
  (l = [] ∧ ∃ A c, v = .slice A 0 c ∧ Plain A) ∨
  (l ≠ [] ∧ ∃ b off c, v = .slice (some ⟨b, off, none⟩) l.length c ∧ l.length ≤ c ∧ c ≤ 9223372036854775807 ∧ ∀ j (h : j < l.length), AtT w b (off + j * 6) l[j])
/-- The slice v of slices of names reads as l. -/
def RdS (w : World) (v : Value) (l : List (List ByteArray)) : Prop :=
  (l = [] ∧ ∃ A c, v = .slice A 0 c ∧ Plain A) ∨
  (l ≠ [] ∧ ∃ b off c, v = .slice (some ⟨b, off, none⟩) l.length c ∧ l.length ≤ c ∧ c ≤ 9223372036854775807 ∧ ∀ j (h : j < l.length), ∃ u, w.cell? ⟨b, off + j, none⟩ = some u ∧ Rd Value.string w u l[j])
theorem AtT.below {w w' : World} {b o : Nat} {t : Tm} (h : AtT w b o t) (hb : Below w.heap.size w w') : AtT w' b o t := by
  obtain ⟨h0, h1, h2, h3, h4, h5⟩ := h
  have hlt := World.block_lt_of_cell? w _ h0
  exact ⟨(hb.cell (p := ⟨b, o, none⟩) hlt).trans h0, (hb.cell (p := ⟨b, o + 1, none⟩) hlt).trans h1, (hb.cell (p := ⟨b, o + 2, none⟩) hlt).trans h2, (hb.cell (p := ⟨b, o + 3, none⟩) hlt).trans h3, (hb.cell (p := ⟨b, o + 4, none⟩) hlt).trans h4, (hb.cell (p := ⟨b, o + 5, none⟩) hlt).trans h5⟩
section
variable {w w' : World} {v : Value}
theorem RdT.below {l : List Tm} (h : RdT w v l) (hb : Below w.heap.size w w') : RdT w' v l := by
  rcases h with h | ⟨h0, b, off, c, e, h1, h2, h3⟩
  · exact .inl h
  · exact .inr ⟨h0, b, off, c, e, h1, h2, fun j hj => (h3 j hj).below hb⟩
theorem RdT.slice {l : List Tm} (h : RdT w v l) : ∃ A c, v = .slice A l.length c ∧ l.length ≤ 9223372036854775807 := by
  rcases h with ⟨rfl, A, c, e⟩ | ⟨h0, b, off, c, e, h1, h2, h3⟩
  · exact ⟨A, c, e.1, by simp⟩
  · exact ⟨_, c, e, by omega⟩
theorem RdT.at {l : List Tm} {A : Option Addr} {n c : Nat} (h : RdT w (.slice A n c) l) (hl : 0 < n) : n = l.length ∧ n ≤ 9223372036854775807 ∧ ∃ b off, A = some ⟨b, off, none⟩ ∧ ∀ j (hj : j < l.length), AtT w b (off + j * 6) l[j] := by
  rcases h with ⟨rfl, A, c, e⟩ | ⟨h0, b, off, c, e, h1, h2, h3⟩
  · cases e.1; omega
  · cases e; exact ⟨rfl, by omega, b, off, rfl, h3⟩
theorem RdS.below {l : List (List ByteArray)} (h : RdS w v l) (hb : Below w.heap.size w w') : RdS w' v l := by
  rcases h with h | ⟨h0, b, off, c, e, h1, h2, h3⟩
  · exact .inl h
  · refine .inr ⟨h0, b, off, c, e, h1, h2, fun j hj => ?_⟩
    obtain ⟨u, hu, hr⟩ := h3 j hj
    exact ⟨u, (hb.cell (p := ⟨b, off + j, none⟩) (World.block_lt_of_cell? w _ hu)).trans hu, hr.below hb⟩
theorem RdS.slice {l : List (List ByteArray)} (h : RdS w v l) : ∃ A c, v = .slice A l.length c ∧ l.length ≤ 9223372036854775807 := by
  rcases h with ⟨rfl, A, c, e⟩ | ⟨h0, b, off, c, e, h1, h2, h3⟩
  · exact ⟨A, c, e.1, by simp⟩
  · exact ⟨_, c, e, by omega⟩
theorem RdS.at {l : List (List ByteArray)} {A : Option Addr} {n c : Nat} (h : RdS w (.slice A n c) l) (hl : 0 < n) : n = l.length ∧ n ≤ 9223372036854775807 ∧ ∃ b off, A = some ⟨b, off, none⟩ ∧ ∀ j (hj : j < l.length), ∃ u, w.cell? ⟨b, off + j, none⟩ = some u ∧ Rd Value.string w u l[j] := by
  rcases h with ⟨rfl, A, c, e⟩ | ⟨h0, b, off, c, e, h1, h2, h3⟩
  · cases e.1; omega
  · cases e; exact ⟨rfl, by omega, b, off, rfl, h3⟩
end

/-- A script; the values that its two slices are. -/
structure Scr where
  frm : Int
  to : Int
  before : Int
  ins : List Tm
  sch : List (List ByteArray)
def RdScr (w : World) (v : Value) (s : Scr) : Prop := ∃ u1 u2, v = .agg #[.int .i64 s.frm, .int .i64 s.to, .int .i64 s.before, u1, u2] ∧ RdT w u1 s.ins ∧ RdS w u2 s.sch
/-- The place of the input with this number. -/
def inIdx (s : Scr) (n : Int) : Int := wrap64 (wrap64 (n - 1) - s.before)
/-- The script has an input with this number. -/
def isIn (s : Scr) (n : Int) : Bool := decide (0 ≤ inIdx s n) && decide (inIdx s n < s.ins.length)

set_option maxRecDepth 100000 in
set_option maxHeartbeats 4000000 in
theorem input_any (s : Scr) (n : Int) (v : Value) (w : World) (hv : RdScr w v s) :
    Calls Tryz.prog 9 #[v, .int .i64 n] w fun e w' => ∃ t : Tm, e = .returned (.tuple #[.agg #[.int .i64 t.tick, .int .i64 t.kind, .int .i64 t.num, .string t.frm, .string t.to, .string t.txt], .bool (isIn s n)]) ∧ Below w.heap.size w w' := by
  obtain ⟨u1, u2, rfl, h1, h2⟩ := hv
  have hu25 := Tryz.underlying25
  have hu38 := Tryz.underlying38
  have HI := Lib.hid (show isIn s n = (decide (0 ≤ inIdx s n) && decide (inIdx s n < s.ins.length)) from rfl)
  generalize isIn s n = r at HI ⊢
  have hi : IntKind.i64.wrap (wrap64 (n - 1) - s.before) = inIdx s n := i64_wrap _
  generalize inIdx s n = i at HI hi
  have hb0 := (Below.refl w.heap.size w).alloc (Nat.le_refl _) (.cells #[.int .i64 s.frm, .int .i64 s.to, .int .i64 s.before, u1, u2] 25)
  have HB0 := Lib.hid (hb0.alloc hb0.size (.cells #[.int .i64 0, .int .i64 0, .int .i64 0, .string ⟨#[]⟩, .string ⟨#[]⟩, .string ⟨#[]⟩] 38))
  have HT := Lib.hid (h1.below HB0.out)
  obtain ⟨A, c, rfl, hl⟩ := h1.slice
  obtain ⟨A', c', rfl, hl'⟩ := h2.slice
  clear h1 h2 hb0
  by_cases c1 : i < 0
  · have HR := Lib.hid (show r = false by rw [HI.out, decide_eq_false (by omega), Bool.false_and])
    go_enter Tryz.func9, Tryz.ntmps9
    go_wp2
    refine bodyPost_ret (resultsCT rfl _ _ (w.heap.size + 1) 38 _ (0, 0) _ rfl (heapA2 _ _ _) hu38 rfl Tryz_size38) rfl ?_
    exact ⟨⟨0, 0, 0, ⟨#[]⟩, ⟨#[]⟩, ⟨#[]⟩⟩, by rw [HR.out]; rfl, HB0.out⟩
  · by_cases c2 : (s.ins.length : Int) ≤ i
    · have HR := Lib.hid (show r = false by rw [HI.out, decide_eq_false (show ¬ i < (s.ins.length : Int) by omega), Bool.and_false])
      go_enter Tryz.func9, Tryz.ntmps9
      go_wp2
      refine bodyPost_ret (resultsCT rfl _ _ (w.heap.size + 1) 38 _ (0, 0) _ rfl (heapA2 _ _ _) hu38 rfl Tryz_size38) rfl ?_
      exact ⟨⟨⟨0, 0, 0, ⟨#[]⟩, ⟨#[]⟩, ⟨#[]⟩⟩, by rw [HR.out]; rfl⟩, HB0.out⟩
    · obtain ⟨j, rfl⟩ : ∃ j : Nat, i = j := ⟨i.toNat, by omega⟩
      have hjl : j < s.ins.length := by omega
      have hjl' : (j : Int) < (s.ins.length : Int) := by omega
      have HR := Lib.hid (show r = true by rw [HI.out, decide_eq_true (by omega), decide_eq_true hjl']; rfl)
      obtain ⟨-, -, b, off, rfl, hx⟩ := HT.out.at (by omega)
      obtain ⟨q0, q1, q2, q3, q4, q5⟩ := hx j hjl
      clear hx
      go_enter Tryz.func9, Tryz.ntmps9
      go_wp2
      refine bodyPost_ret (resultsCT rfl _ _ (w.heap.size + 1) 38 _ (0, 0) _ rfl (heapA2 _ _ _) hu38 rfl Tryz_size38) rfl ?_
      exact ⟨⟨s.ins[j], by rw [HR.out]; rfl⟩, ((Below.refl w.heap.size w).alloc (Nat.le_refl _) _).alloc (by rw [sizeA]; omega) _⟩
end Go.Proofs.YtcbgngkalplafaaGreatDoor
