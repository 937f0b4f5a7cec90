/- lineage.parse: the walk of the caller. -/
import Derived.Test.YtcbgngkalplafaaGreatDoorA2
namespace Go.Proofs.YtcbgngkalplafaaGreatDoor
open Go.RowKit Go.Shelf Lin
attribute [local go_sem] Oper.semAt_some

def ords (l : List Part) : List Int := l.map (·.1)
def firstErr (l : List Part) : Option Part := l.find? (fun x => x.2.2 != 0)
def isOk (l : List Part) : Prop := ∀ x ∈ l, x.2.2 = 0
/-- What the variables of parse hold when the parts of pre have come. -/
def IParse (B : Nat) (w : World) (pre : List Part) (W : World) : Prop :=
  ((((∃ v, Boxed W (B + 3) 26 v ∧ W.ownsRow (B + 5) 3 1 v pre.length ((ords pre).map (Value.int .i64)) ∧ (v = .slice none 0 0 ↔ pre = [])) ∧ Boxed W B 26 (.slice none 0 0)) ∧ Boxed W (B + 1) 3 (.int .i64 0)) ∧ Boxed W (B + 2) 33 (.int .i64 0)) ∧ isOk pre ∧ B + 5 ≤ W.heap.size ∧ Below B w W
def IxParse (B : Nat) (w : World) (c : Code) (pre : List Part) (W : World) : Prop :=
  ((Boxed W B 26 (.slice none 0 0) ∧ Boxed W (B + 1) 3 (.int .i64 ((pre.getLast?.getD (0, 0, 0)).2.1))) ∧ Boxed W (B + 2) 33 (.int .i64 ((pre.getLast?.getD (0, 0, 0)).2.2))) ∧ (c = .ret ∧ ∃ q x, pre = q ++ [x] ∧ isOk q ∧ x.2.2 ≠ 0) ∧ Below B w W
def ParsePost (w : World) (s : ByteArray) (e : Ending) (W' : World) : Prop :=
  ∃ v a er, e = .returned (.tuple #[v, .int .i64 a, .int .i64 er]) ∧ Below w.heap.size w W' ∧
    ((isOk (parts s.data.toList) ∧ a = 0 ∧ er = 0 ∧ W'.ownsRow w.heap.size 3 1 v (parts s.data.toList).length ((ords (parts s.data.toList)).map (Value.int .i64)) ∧ (v = .slice none 0 0 ↔ parts s.data.toList = [])) ∨
     (∃ x, firstErr (parts s.data.toList) = some x ∧ v = .slice none 0 0 ∧ a = x.2.1 ∧ er = x.2.2))

theorem owns_lower {w : World} {base base' n : Nat} {e : TypeId} {size : Nat} {v : Value} {xs : List Value} (h : w.ownsRow base e size v n xs) (hb : base' ≤ base) : w.ownsRow base' e size v n xs := by
  refine ⟨h.1, ?_⟩
  rcases h.2 with h | ⟨g, cap, cur, e, hg, r⟩
  · exact .inl h
  · exact .inr ⟨g, cap, cur, e, by omega, r⟩
theorem own_slice' {w : World} {base n : Nat} {e : TypeId} {size : Nat} {v : Value} {xs : List Value} (h : w.ownsRow base e size v n xs) : ∃ A c, v = .slice A n c := by
  rcases h.2 with ⟨rfl, rfl⟩ | ⟨g, cap, cur, rfl, _⟩
  · exact ⟨none, 0, rfl⟩
  · exact ⟨_, cap, rfl⟩
theorem ownFrom_size {β : Type} (B N : Nat) : OwnFrom B (fun (_ : β) W => N ≤ W.heap.size) := fun _ _ _ _ hs hg _ => Nat.le_trans hs hg.size

/-- 'out = append(out, ..)', the rows of ints: what the boxes are below the row's base lies on. -/
theorem kp_appended {W w1 : World} {B : Nat} {v v' : Value} {k m : Nat} {xs ys : List Value} {tmp : Obj}
    (hv : Boxed W (B + 3) 26 v) (hrow : W.ownsRow (B + 5) 3 1 v k xs) (hB : B ≤ W.heap.size) (_ : B ≤ B + 3)
    (hown' : w1.ownsRow (B + 5) 3 1 v' m ys) (hgrow : (W.alloc tmp).grownBy w1 v.ownBlock) :
    Boxed w1 (B + 3) 26 v ∧ Boxed (w1.setCell ⟨B + 3, 0, none⟩ v') (B + 3) 26 v' ∧ (w1.setCell ⟨B + 3, 0, none⟩ v').ownsRow (B + 5) 3 1 v' m ys ∧ KeepsOthers W (w1.setCell ⟨B + 3, 0, none⟩ v') ∧ Below B W (w1.setCell ⟨B + 3, 0, none⟩ v') ∧ KpP W (w1.setCell ⟨B + 3, 0, none⟩ v') ∧
    (∀ b t u, b < B + 5 → b ≠ B + 3 → Boxed W b t u → Boxed (w1.setCell ⟨B + 3, 0, none⟩ v') b t u) := by
  have hrow' : W.ownsRow B 3 1 v k xs := by
    refine ⟨hrow.1, ?_⟩
    rcases hrow.2 with h | ⟨g, cap, cur, e, hb, r⟩
    · exact .inl h
    · exact .inr ⟨g, cap, cur, e, by omega, r⟩
  have hown2 : w1.ownsRow B 3 1 v' m ys := by
    refine ⟨hown'.1, ?_⟩
    rcases hown'.2 with h | ⟨g, cap, cur, e, hb, r⟩
    · exact .inl h
    · exact .inr ⟨g, cap, cur, e, by omega, r⟩
  obtain ⟨h1, h2, h3, h4, h5⟩ := hv.appended (by decide) hrow' hB (by omega) hown2 hgrow
  have hself : (w1.setCell ⟨B + 3, 0, none⟩ v').ownsRow (B + 5) 3 1 v' m ys := hown'.kept (grownBy_setCell' w1 (B + 3) v') (.inr (h1.not_row (by decide) hown').symm)
  have hother : ∀ b, b < W.heap.size → b ≠ B + 3 → some b ≠ v.ownBlock → (w1.setCell ⟨B + 3, 0, none⟩ v').heap[b]? = W.heap[b]? := fun b hb h3 hne => by
    rw [Below.heap_setCell _ _ _ _ (by simpa using h3), hgrow.block b (by simp; omega) hne]
    exact (World.grownBy_alloc W tmp none).block b hb (by simp)
  refine ⟨h1, h2, hself, h4, h5, ?_, ?_⟩
  · intro b c t fr ht hb
    have hlt := (Array.getElem?_eq_some_iff.1 hb).1
    refine (hother b hlt ?_ ?_).trans hb
    · intro e; subst e
      rw [show W.heap[B + 3]? = _ from hv] at hb
      cases hb; simp at ht
    · rcases hrow.2 with ⟨rfl, _⟩ | ⟨g, cap, cur, rfl, hgb, hg, _⟩
      · simp [Value.ownBlock]
      · intro e
        obtain rfl : b = g := by simpa [Value.ownBlock] using e
        rw [hg] at hb; cases hb; simp at ht
  · intro b t u hb hne hx
    refine (hother b hx.lt hne ?_).trans hx
    rcases hrow.2 with ⟨rfl, _⟩ | ⟨g, cap, cur, rfl, hgb, hg, _⟩
    · simp [Value.ownBlock]
    · intro e
      obtain rfl : b = g := by simpa [Value.ownBlock] using e
      omega

/-- The three variables of the results hold u2, u3, u4; nothing else has turned since W. -/
def St (B : Nat) (W W' : World) (u2 u3 u4 : Value) : Prop := KeepsOthers W W' ∧ Below B W W' ∧ Boxed W' B 26 u2 ∧ Boxed W' (B + 1) 3 u3 ∧ Boxed W' (B + 2) 33 u4
theorem St.set2 {B : Nat} {W W' : World} {u2 u3 u4 v : Value} (h : St B W W' u2 u3 u4) : St B W (W'.setCell ⟨B, 0, none⟩ v) v u3 u4 :=
  ⟨h.1.trans (KeepsOthers.setCell _ _ _), h.2.1.setCell (Nat.le_refl _) _, h.2.2.1.set v, h.2.2.2.1.other (by omega) v, h.2.2.2.2.other (by omega) v⟩
theorem St.set3 {B : Nat} {W W' : World} {u2 u3 u4 v : Value} (h : St B W W' u2 u3 u4) : St B W (W'.setCell ⟨B + 1, 0, none⟩ v) u2 v u4 :=
  ⟨h.1.trans (KeepsOthers.setCell _ _ _), h.2.1.setCell (by simp) _, h.2.2.1.other (by omega) v, h.2.2.2.1.set v, h.2.2.2.2.other (by omega) v⟩
theorem St.set4 {B : Nat} {W W' : World} {u2 u3 u4 v : Value} (h : St B W W' u2 u3 u4) : St B W (W'.setCell ⟨B + 1 + 1, 0, none⟩ v) u2 u3 v :=
  ⟨h.1.trans (KeepsOthers.setCell _ _ _), h.2.1.setCell (by simp; omega) _, h.2.2.1.other (by omega) v, h.2.2.2.1.other (by omega) v, h.2.2.2.2.set v⟩
theorem St.drew {B : Nat} {W W' : World} {u2 u3 u4 : Value} (h : St B W W' u2 u3 u4) : St B W W'.drew u2 u3 u4 :=
  ⟨h.1.trans (KeepsOthers.drew _), h.2.1.drew, h.2.2.1, h.2.2.2.1, h.2.2.2.2⟩

set_option maxRecDepth 100000 in
set_option maxHeartbeats 2000000 in
theorem parse_in (hA : AtoiSaid) (n : Nat) (hn : 3 ≤ n) (s : ByteArray) (hs : s.size ≤ 9223372036854775807) (w : World) :
    CallsIn Fence.wide n Tryz.prog 63 #[.string s] w (ParsePost w s) := by
  have h1 : 1 ≤ n := by omega
  have hro : Fence.wide.round = none := rfl
  obtain ⟨i0, hi, hz0, hz1, hz2⟩ := info_parts Tryz_info3
  refine callsIn_of_wp_marks Tryz.func63 rfl trivial ?_ hro
  simp only [Tryz.ntmps63, List.size_toArray, List.length_cons, List.length_nil, Nat.reduceAdd, Nat.reduceSub, Array.replicate_succ, Array.replicate_zero, List.push_toArray, List.append_toArray, List.nil_append, List.cons_append]
  have hB0 : Below w.heap.size w (((((w.alloc (.cells #[.slice none 0 0] 26)).alloc (.cells #[.int .i64 0] 3)).alloc (.cells #[.int .i64 0] 33)).alloc (.cells #[.slice none 0 0] 26)).alloc (.cells #[.string s] 9)) :=
    (((((Below.refl _ w).alloc (Nat.le_refl _) _).alloc (by simp) _).alloc (by simp; omega) _).alloc (by simp; omega) _).alloc (by simp; omega) _
  have b2 : Boxed (((((w.alloc (.cells #[.slice none 0 0] 26)).alloc (.cells #[.int .i64 0] 3)).alloc (.cells #[.int .i64 0] 33)).alloc (.cells #[.slice none 0 0] 26)).alloc (.cells #[.string s] 9)) w.heap.size 26 (.slice none 0 0) :=
    ((((Boxed.new w 26 _).alloc _).alloc _).alloc _).alloc _
  have b3 : Boxed (((((w.alloc (.cells #[.slice none 0 0] 26)).alloc (.cells #[.int .i64 0] 3)).alloc (.cells #[.int .i64 0] 33)).alloc (.cells #[.slice none 0 0] 26)).alloc (.cells #[.string s] 9)) (w.heap.size + 1) 3 (.int .i64 0) := by
    have := (((Boxed.new (w.alloc (.cells #[.slice none 0 0] 26)) 3 (.int .i64 0)).alloc (.cells #[.int .i64 0] 33)).alloc (.cells #[.slice none 0 0] 26)).alloc (.cells #[.string s] 9)
    rwa [World.size_alloc] at this
  have b4 : Boxed (((((w.alloc (.cells #[.slice none 0 0] 26)).alloc (.cells #[.int .i64 0] 3)).alloc (.cells #[.int .i64 0] 33)).alloc (.cells #[.slice none 0 0] 26)).alloc (.cells #[.string s] 9)) (w.heap.size + 2) 33 (.int .i64 0) := by
    have := ((Boxed.new ((w.alloc (.cells #[.slice none 0 0] 26)).alloc (.cells #[.int .i64 0] 3)) 33 (.int .i64 0)).alloc (.cells #[.slice none 0 0] 26)).alloc (.cells #[.string s] 9)
    rwa [World.size_alloc, World.size_alloc] at this
  have b5 : Boxed (((((w.alloc (.cells #[.slice none 0 0] 26)).alloc (.cells #[.int .i64 0] 3)).alloc (.cells #[.int .i64 0] 33)).alloc (.cells #[.slice none 0 0] 26)).alloc (.cells #[.string s] 9)) (w.heap.size + 3) 26 (.slice none 0 0) := by
    have := (Boxed.new (((w.alloc (.cells #[.slice none 0 0] 26)).alloc (.cells #[.int .i64 0] 3)).alloc (.cells #[.int .i64 0] 33)) 26 (.slice none 0 0)).alloc (.cells #[.string s] 9)
    rwa [World.size_alloc, World.size_alloc, World.size_alloc] at this
  have b6 : Boxed (((((w.alloc (.cells #[.slice none 0 0] 26)).alloc (.cells #[.int .i64 0] 3)).alloc (.cells #[.int .i64 0] 33)).alloc (.cells #[.slice none 0 0] 26)).alloc (.cells #[.string s] 9)) (w.heap.size + 4) 9 (.string s) := by
    have := Boxed.new ((((w.alloc (.cells #[.slice none 0 0] 26)).alloc (.cells #[.int .i64 0] 3)).alloc (.cells #[.int .i64 0] 33)).alloc (.cells #[.slice none 0 0] 26)) 9 (.string s)
    rwa [World.size_alloc, World.size_alloc, World.size_alloc, World.size_alloc] at this
  have hsz : (((((w.alloc (.cells #[.slice none 0 0] 26)).alloc (.cells #[.int .i64 0] 3)).alloc (.cells #[.int .i64 0] 33)).alloc (.cells #[.slice none 0 0] 26)).alloc (.cells #[.string s] 9)).heap.size = w.heap.size + 5 := by simp
  gi_wp2_with fail
  refine ⟨trivial, (partsf_in (n - 1) _ _).mono ?_⟩
  rintro e w' ⟨rfl, rfl⟩
  simp only [World.size_alloc]
  gi_wp2_with fail
  generalize hW0 : (((((w.alloc (.cells #[.slice none 0 0] 26)).alloc (.cells #[.int .i64 0] 3)).alloc (.cells #[.int .i64 0] 33)).alloc (.cells #[.slice none 0 0] 26)).alloc (.cells #[.string s] 9)) = W0 at *
  clear hW0
  have hI0 : IParse w.heap.size w [] W0 := ⟨⟨⟨⟨⟨_, b5, World.ownsRow_nil _ _ _ _, by simp⟩, b2⟩, b3⟩, b4⟩, (fun x (hx : x ∈ []) => by simp at hx), by omega, hB0⟩
  refine wpIn_rangeFunc_ownH hro h1 (gf := 103) (lb := #[.pointer (some ⟨w.heap.size + 4, 0, none⟩)]) rfl trivial (enters_of Tryz.func103 (by kernel_rfl) rfl)
    (parts_stops hA (n - 1) (by omega) (w.heap.size + 4) s hs _ b6) KpP_t KpP_b (Below.refl _ _) (fun _ => rfl)
    (IParse w.heap.size w) (IxParse w.heap.size w) ?hI ?hIx hI0
    (fun x a' W => ∃ pb, W.heap[pb]? = some (Obj.cells #[.int .i64 x.1, .int .i64 x.2.1, .int .i64 x.2.2] 110 (0, 0)) ∧ a' = { tmps := #[.string s, undef, .pointer (some ⟨w.heap.size, 0, none⟩), .pointer (some ⟨w.heap.size + 1, 0, none⟩), .pointer (some ⟨w.heap.size + 1 + 1, 0, none⟩), .pointer (some ⟨w.heap.size + 1 + 1 + 1, 0, none⟩), .pointer (some ⟨pb, 0, none⟩), .string s, .func (.func 103) #[] #[.pointer (some ⟨w.heap.size + 4, 0, none⟩)], .agg #[.int .i64 x.1, .int .i64 x.2.1, .int .i64 x.2.2], undef, undef, undef, undef, undef, undef, undef, undef, undef, undef, undef, undef, undef], defers := [] })
    ?hAx ?assign ?body ?done ?stop
  case hI =>
    exact OwnFrom.and (OwnFrom.and (OwnFrom.and (OwnFrom.and (Own.from (holdsRow_own (w.heap.size + 5) (w.heap.size + 3) 26 3 1 (fun pre : List Part => pre.length) (fun pre => (ords pre).map (Value.int .i64)) (fun pre v => v = .slice none 0 0 ↔ pre = [])) _) (Own.from (boxed_own _ _ _) _)) (Own.from (boxed_own _ _ _) _)) (Own.from (boxed_own _ _ _) _)) (OwnFrom.and (ownFrom_pure _ _) (OwnFrom.and (ownFrom_size _ _) (ownFrom_below (by omega) (by omega))))
  case hIx =>
    intro c
    exact OwnFrom.and (OwnFrom.and (OwnFrom.and (Own.from (boxed_own _ _ _) _) (Own.from (boxed_own _ _ _) _)) (Own.from (boxed_own _ _ _) _)) (OwnFrom.and (ownFrom_pure _ _) (ownFrom_below (by omega) (by omega)))
  case hAx =>
    rintro x a' s A A' row ⟨pb, h, e⟩ hg hr
    refine ⟨pb, (hg.block pb (Array.getElem?_eq_some_iff.1 h).1 (fun e' => ?_)).trans h, e⟩
    obtain ⟨_, o, ho, hc⟩ := hr pb e'.symm
    rw [h] at ho; cases ho; cases hc
  case assign =>
    rintro l pre x W K hi hK
    have hi' := hi
    obtain ⟨⟨⟨⟨⟨v, hv5, hrow, hnil⟩, hv2⟩, hv3⟩, hv4⟩, hok, h5, hB⟩ := hi'
    have hsz' := hB.size
    simp only [encP]
    have fin : ∀ a', a' = ({ tmps := #[.string s, undef, .pointer (some ⟨w.heap.size, 0, none⟩), .pointer (some ⟨w.heap.size + 1, 0, none⟩), .pointer (some ⟨w.heap.size + 1 + 1, 0, none⟩), .pointer (some ⟨w.heap.size + 1 + 1 + 1, 0, none⟩), .pointer (some ⟨W.heap.size, 0, none⟩), .string s, .func (.func 103) #[] #[.pointer (some ⟨w.heap.size + 4, 0, none⟩)], .agg #[.int .i64 x.1, .int .i64 x.2.1, .int .i64 x.2.2], undef, undef, undef, undef, undef, undef, undef, undef, undef, undef, undef, undef, undef], defers := [] } : Act) → K a' (W.alloc (.cells #[.int .i64 x.1, .int .i64 x.2.1, .int .i64 x.2.2] 110)) := fun a' e =>
      hK _ _ ((KeepsOthers.alloc W _).from _) (KpP_alloc W _) ⟨⟨⟨⟨⟨v, hv5.alloc _, hrow.alloc _, hnil⟩, hv2.alloc _⟩, hv3.alloc _⟩, hv4.alloc _⟩, hok, by rw [World.size_alloc]; omega, hB.alloc hsz' _⟩ ⟨W.heap.size, heapA _ _, e⟩
    have FIN := Lib.hid fin
    clear fin hK hi
    gi_wp2
    exact FIN.out _ rfl
  case body =>
    rintro l pre x a' W hl ⟨r, hr⟩ ⟨⟨⟨⟨⟨v, hv, hrow, hnil⟩, hv2⟩, hv3⟩, hv4⟩, hok, h5, hB⟩ ⟨pb, hpb, rfl⟩ hlt
    have hp0 := cell_of_heap hpb 0 _ rfl
    have hp1 := cell_of_heap hpb 1 _ rfl
    have hp2 := cell_of_heap hpb 2 _ rfl
    by_cases he : x.2.2 = 0
    · have heb : (x.2.2 != 0) = false := by rw [bne_eq_false_iff_eq]; exact he
      have HE := Lib.hid he; clear he
      have hc := hv.cell
      gi_wp2_with (gi_at_builtin; refine wpListIn_append_own _ rfl _ _ 26 rfl (w.heap.size + 5) 3 i0 (.int .i64 0) 1 8 Tryz.underlying26 hi hz0 hz1 hz2 rfl (by decide) _ _ _ rfl (hrow.alloc _) ⟨W.heap.size, 0, none⟩ 1 1 [.int .i64 x.1] rfl rfl (cell_one_new _ _ _) (by simp [Value.oneCell']) (by simp only [maxLen]; omega) (by omega) (by simp; omega) ?_; intro v' w1 hown' hgrow _; obtain ⟨g', cap', rfl⟩ := ownsRow_succ hown'; obtain ⟨hv1, hvn, hr2, hk2, hb2, hkp2, hot2⟩ := kp_appended hv hrow hB.size (by omega) hown' hgrow; have hc1 := hv1.cell; have hf1 := hv1.frozen)
      refine ⟨hk2.from _, hkp2, ⟨⟨⟨⟨_, hvn, ?_, by simp⟩, hot2 _ 26 _ (by omega) (by omega) hv2⟩, hot2 _ 3 _ (by omega) (by omega) hv3⟩, hot2 _ 33 _ (by omega) (by omega) hv4⟩, ?_, ?_, hB.trans hb2⟩
      · simpa [ords] using hr2
      · intro y hy
        rcases List.mem_append.1 hy with h | h
        · exact hok y h
        · rw [List.mem_singleton.1 h]; exact HE.out
      · exact Nat.le_trans h5 hk2.size
    · have heb : (x.2.2 != 0) = true := by rw [bne_iff_ne]; exact he
      have HE := Lib.hid he; clear he
      have fin : ∀ W', St w.heap.size W W' (.slice none 0 0) (.int .i64 x.2.1) (.int .i64 x.2.2) → KeepsFrom W0.heap.size W W' ∧ IxParse w.heap.size w .ret (pre ++ [x]) W' := fun W' h =>
        ⟨h.1.from _, ⟨⟨h.2.2.1, by simpa using h.2.2.2.1⟩, by simpa using h.2.2.2.2⟩, ⟨rfl, pre, x, rfl, hok, HE.out⟩, hB.trans h.2.1⟩
      have S0 := Lib.hid (show St w.heap.size W W (.slice none 0 0) (.int .i64 0) (.int .i64 0) from ⟨KeepsOthers.refl _, Below.refl _ _, hv2, hv3, hv4⟩)
      have FIN := Lib.hid fin
      clear fin
      have hc2 := hv2.cell
      have hf2 := hv2.frozen
      have hc3 := hv3.cell
      have hf3 := hv3.frozen
      have hc4 := hv4.cell
      have hf4 := hv4.frozen
      gi_wp2
      gi_region
      all_goals
        gi_wp2
        exact FIN.out _ (by repeat (first | exact S0.out | apply St.set2 | apply St.set3 | apply St.set4 | apply St.drew))
  case done =>
    rintro D xs W hD rfl ⟨⟨⟨⟨⟨v, hv, hrow, hnil⟩, hv2⟩, hv3⟩, hv4⟩, hok, h5, hB⟩ hK
    obtain ⟨A, c, rfl⟩ := own_slice' hrow
    have hc := hv.cell
    have hc2 := hv2.cell
    have hf2 := hv2.frozen
    have hc3 := hv3.cell
    have hf3 := hv3.frozen
    have hc4 := hv4.cell
    have hf4 := hv4.frozen
    have hS : St w.heap.size W (((W.setCell ⟨w.heap.size, 0, none⟩ (.slice A (parts s.data.toList).length c)).setCell ⟨w.heap.size + 1, 0, none⟩ (.int .i64 0)).setCell ⟨w.heap.size + 1 + 1, 0, none⟩ (.int .i64 0)) (.slice A (parts s.data.toList).length c) (.int .i64 0) (.int .i64 0) := by
      apply St.set4; apply St.set3; apply St.set2
      exact ⟨KeepsOthers.refl _, Below.refl _ _, hv2, hv3, hv4⟩
    have hR := ownsRow_setCell_below (ownsRow_setCell_below (ownsRow_setCell_below hrow (a := ⟨w.heap.size, 0, none⟩) (by simp +arith) (.slice A (parts s.data.toList).length c)) (a := ⟨w.heap.size + 1, 0, none⟩) (by simp +arith) (.int .i64 0)) (a := ⟨w.heap.size + 1 + 1, 0, none⟩) (by simp +arith) (.int .i64 0)
    gi_wp2
    generalize ((W.setCell ⟨w.heap.size, 0, none⟩ (.slice A (parts s.data.toList).length c)).setCell ⟨w.heap.size + 1, 0, none⟩ (.int .i64 0)).setCell ⟨w.heap.size + 1 + 1, 0, none⟩ (.int .i64 0) = W3 at hS hR ⊢
    have hK3 := hS.1.same D _ hK rfl
    have q2 := cell_kept hS.2.2.1.cell (grownBy_putObj' _ D (.deferred none)) (fun r e => by cases e; exact ⟨_, hK3, rfl⟩)
    have q3 := cell_kept hS.2.2.2.1.cell (grownBy_putObj' _ D (.deferred none)) (fun r e => by cases e; exact ⟨_, hK3, rfl⟩)
    have q4 := cell_kept hS.2.2.2.2.cell (grownBy_putObj' _ D (.deferred none)) (fun r e => by cases e; exact ⟨_, hK3, rfl⟩)
    refine ⟨by simp, .inl ⟨_, _, rfl, run_takeDeferred hK3, ?_⟩⟩
    refine ⟨.tuple #[.slice A (parts s.data.toList).length c, .int .i64 0, .int .i64 0], by simp [results, Tryz.results63, go_sem, q2, q3, q4], _, _, _, rfl, ?_, .inl ⟨hok, rfl, rfl, ?_, hnil⟩⟩
    · exact (hB.trans hS.2.1).trans (belowK_b (w := w) (Nat.le_refl _) W3 D _ _ (by omega) hK3 rfl rfl)
    · exact owns_lower (ownsRow_putObj hR _ hK3 rfl) (by omega)
  case stop =>
    rintro D c pre W hD hsp ⟨⟨⟨hv2, hv3⟩, hv4⟩, ⟨rfl, q, x, rfl, hok, hx⟩, hB⟩ hK
    gi_wp2
    have q2 := cell_kept hv2.cell (grownBy_putObj' _ D (.deferred none)) (fun r e => by cases e; exact ⟨_, hK, rfl⟩)
    have q3 := cell_kept hv3.cell (grownBy_putObj' _ D (.deferred none)) (fun r e => by cases e; exact ⟨_, hK, rfl⟩)
    have q4 := cell_kept hv4.cell (grownBy_putObj' _ D (.deferred none)) (fun r e => by cases e; exact ⟨_, hK, rfl⟩)
    simp only [List.getLast?_append, List.getLast?_singleton, Option.some_or, Option.getD_some] at q3 q4
    refine ⟨by simp, .inl ⟨_, _, rfl, run_takeDeferred hK, ?_⟩⟩
    refine ⟨.tuple #[.slice none 0 0, .int .i64 x.2.1, .int .i64 x.2.2], by simp [results, Tryz.results63, go_sem, q2, q3, q4], _, _, _, rfl, ?_, .inr ⟨x, ?_, rfl, rfl, rfl⟩⟩
    · exact hB.trans (belowK_b (w := w) (Nat.le_refl _) W D _ _ (by omega) hK rfl rfl)
    · obtain ⟨r, hr⟩ := hsp
      rw [firstErr, ← hr, List.append_assoc, List.find?_append]
      rw [List.find?_eq_none.2 (fun y hy => by simp [hok y hy])]
      simp [hx]
end Go.Proofs.YtcbgngkalplafaaGreatDoor
