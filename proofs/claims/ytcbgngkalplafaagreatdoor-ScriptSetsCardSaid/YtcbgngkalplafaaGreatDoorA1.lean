/- The iterator lineage.parts$1: what it yields. -/
import Derived.Test.YtcbgngkalplafaaGreatDoorBase
import Derived.Lib.Strings
import Derived.Test.YtcbgngkalplafaaGreatDoorPure0
namespace Go.Proofs.YtcbgngkalplafaaGreatDoor
open Go.RowKit Go.Shelf Lin
attribute [local go_sem] Oper.semAt_some

def encP (x : Part) : Array Value := #[.agg #[.int .i64 x.1, .int .i64 x.2.1, .int .i64 x.2.2]]

/-- What a round keeps: every block of type 9 or 110. -/
def KpP (W W' : World) : Prop := ∀ (b : Nat) (c : Array Value) (t : TypeId) (fr : Nat × Nat), t = 9 ∨ t = 110 → W.heap[b]? = some (Obj.cells c t fr) → W'.heap[b]? = some (Obj.cells c t fr)

/-- A counter that has come to at most m. -/
def RelJ (m : Nat) (d : Value) : Prop := ∃ j : Nat, d = .int .i64 j ∧ j ≤ m
/-- Block b holds cells of type 110. -/
def Typ110 (W : World) (b : Nat) : Prop := ∃ c fr, W.heap[b]? = some (Obj.cells c 110 fr)
theorem typ110 {W : World} {b : Nat} {c : Array Value} {fr : Nat × Nat} (h : W.heap[b]? = some (Obj.cells c 110 fr)) : Typ110 W b := ⟨c, fr, h⟩
theorem Typ110.setCell {W : World} {b : Nat} (h : Typ110 W b) (a : Addr) (v : Value) : Typ110 (W.setCell a v) b := by
  obtain ⟨c, fr, h⟩ := h
  by_cases e : a.block = b
  · have hlt : b < W.heap.size := (Array.getElem?_eq_some_iff.1 h).1
    have h' : W.heap[a.block]? = some (Obj.cells c 110 fr) := by rw [e]; exact h
    unfold Typ110 World.setCell
    refine ⟨if a.spot.isSome then c else c.setIfInBounds a.off v, fr, ?_⟩
    simp only [Array.getElem?_modify, e, if_true, h, Option.map_some]
  · exact ⟨c, fr, (Below.heap_setCell W a v b (fun h => e h.symm)).trans h⟩
theorem Typ110.below {W W' : World} {b B : Nat} (h : Typ110 W b) (hb : Below B W W') (hlt : b < B) : Typ110 W' b := by
  obtain ⟨c, fr, h⟩ := h
  exact ⟨c, fr, (hb.block b hlt).trans h⟩
theorem kp_cell {b : Nat} {W W' : World} (hk : KpP W W') (j : Nat) (ht : Typ110 W b) {v : Value} (h : W.cell? ⟨b, j, none⟩ = some v) : W'.cell? ⟨b, j, none⟩ = some v := by
  obtain ⟨c, fr, hh⟩ := ht
  have := hk b c 110 fr (.inr rfl) hh
  simp only [World.cell?, hh] at h
  simp only [World.cell?, this]
  exact h
def AtoiSaid : Prop := ∀ (t : ByteArray) (W : World), 1 ≤ t.size → t.size ≤ 6 → ndig t.data.toList = t.size →
  Calls Tryz.prog 104 #[.string t] W fun e W' => e = .returned (.tuple #[.int .i64 (dval t.data.toList), .nilIface]) ∧ Below W.heap.size W W'

set_option maxRecDepth 100000 in
set_option maxHeartbeats 4000000 in
theorem parts1_in (hA : AtoiSaid) (n : Nat) (hn : 1 ≤ n) (l Bn : Nat) (s : ByteArray) (hs : s.size ≤ 9223372036854775807) (J Jx : List Part → World → Prop)
    (hJ : ∀ xs W W', J xs W → Below W.heap.size W W' → J xs W')
    (hY : ∀ pre x W, J pre W → pre.length < 9 → YieldAt Fence.wide (n - 1) Tryz.prog l (encP x) W fun e W' =>
      (e = .returned (.bool true) ∧ J (pre ++ [x]) W' ∧ KpP W W') ∨ (e = .returned (.bool false) ∧ Jx (pre ++ [x]) W'))
    (W : World) (hBn : W.heap[Bn]? = some (Obj.cells #[.string s] 9 (0, 0))) (h0 : J [] W) :
    CallsIn Fence.wide n Tryz.prog 103 #[.func (.yield l) #[] #[], .pointer (some ⟨Bn, 0, none⟩)] W fun e W' => (∃ v, e = .returned v) ∧
      ((∃ ys, ys = parts s.data.toList ∧ J ys W') ∨ (∃ pre, pre <+: parts s.data.toList ∧ Jx pre W')) := by
  have h6 : Fence.wide.fn 103 := trivial
  have hro : Fence.wide.round = none := rfl
  refine callsIn_of_wp Tryz.func103 rfl h6 ?_ hro
  simp only [Tryz.ntmps103, List.size_toArray, List.length_cons, List.length_nil, Nat.reduceAdd, Nat.reduceSub, Array.replicate_succ, Array.replicate_zero, List.push_toArray, List.append_toArray, List.nil_append, List.cons_append]
  gi_wp2
  gi_loopw [3, 4] (fun a b wr => ∃ (i m : Nat) (pre : List Part), a = .int .i64 i ∧ b = .int .i64 m ∧ i ≤ s.size ∧ m ≤ 8 ∧ pre.length = m ∧ pre ++ partsGo (8 - m) i (s.data.toList.drop i) = partsGo 8 0 s.data.toList ∧ wr.heap[Bn]? = some (Obj.cells #[.string s] 9 (0, 0)) ∧ J pre wr ∧ (s.data.toList = [] → pre = []))
    (fun a b _ => 8 - (intOf b).toNat)
  case atStart => exact ⟨0, 0, [], rfl, rfl, by omega, by omega, rfl, by simp, hBn, h0, fun _ => rfl⟩
  case round =>
    obtain ⟨i, m, pre, rfl, rfl, hi, hm, hpre, hall, hch, hj, hnil⟩ := hrel
    have hc := cell_of_heap hch 0 (.string s) rfl
    by_cases hne : s.data.toList ≠ []
    · have hneb : (!s.toList.isEmpty) = true := by rw [Lib.toList_data]; simpa using hne
      gi_wp2
      have HNE := Lib.hid hne
      clear hnil
      have hc1 := cellO (.cells #[.int .i64 0, .int .i64 i, .int .i64 0] 110) hc
      have hp0 := cellA wr #[.int .i64 0, .int .i64 i, .int .i64 0] 110 0 _ rfl
      have hp1 := cellA wr #[.int .i64 0, .int .i64 i, .int .i64 0] 110 1 _ rfl
      have hp2 := cellA wr #[.int .i64 0, .int .i64 i, .int .i64 0] 110 2 _ rfl
      have hf0 := frozenA wr #[.int .i64 0, .int .i64 i, .int .i64 0] 110 0
      have hf2 := frozenA wr #[.int .i64 0, .int .i64 i, .int .i64 0] 110 2
      have hb1 : Below wr.heap.size wr (wr.alloc (.cells #[.int .i64 0, .int .i64 i, .int .i64 0] 110)) := (Below.refl _ _).alloc (Nat.le_refl _) _
      have hsz1 := sizeA wr (.cells #[.int .i64 0, .int .i64 i, .int .i64 0] 110)
      have hJw : ∀ W', Below wr.heap.size wr W' → J pre W' := fun W' hb => hJ _ _ _ hj hb
      have hp3 : (wr.alloc (.cells #[.int .i64 0, .int .i64 i, .int .i64 0] 110)).heap[wr.heap.size]? = some (.cells #[.int .i64 0, .int .i64 i, .int .i64 0] 110 (0, 0)) := heapA _ _
      have hch1 := (hb1.block Bn (Array.getElem?_eq_some_iff.1 hch).1).trans hch
      have hbne : Bn ≠ wr.heap.size := fun e => by have := (Array.getElem?_eq_some_iff.1 hch).1; omega
      generalize wr.alloc (.cells #[.int .i64 0, .int .i64 i, .int .i64 0] 110) = wa at hc1 hp0 hp1 hp2 hf0 hf2 hb1 hsz1 hp3 hch1 ⊢
      have hpb2 : wr.heap.size < wa.heap.size := by omega
      clear hsz1
      have hlen : s.data.toList.length = s.size := by simp
      gi_loop [6] (fun d => RelJ (ndig (s.data.toList.drop i)) d) (fun d => s.size - (intOf d).toNat)
      case atStart => exact ⟨0, rfl, by omega⟩
      case round =>
        obtain ⟨j, rfl, hjd⟩ := hrel
        have hl : ndig (s.data.toList.drop i) ≤ s.size - i := by have := ndig_le (s.data.toList.drop i); simpa using this
        have hx := byt_at s (i + j)
        by_cases hlt : j < ndig (s.data.toList.drop i)
        · have hlt2 : i + j < s.size := by omega
          have hlt3 : (i : Int) + j < s.size := by omega
          have hdg := ndig_lt (s.data.toList.drop i) j hlt (by simp only [List.length_drop]; omega)
          have hbe := byt_drop s i j (by simp only [List.length_drop]; omega)
          simp only [isDig, Bool.and_eq_true, decide_eq_true_eq] at hdg
          have hge : 48 ≤ byt s (i + j) := by omega
          have hle : byt s (i + j) ≤ 57 := by omega
          clear hdg hbe hne hlen hall hJw hj
          gi_wp2
          go_round
          case rel => exact ⟨j + 1, by go_num, by omega⟩
          case measure => simp [intOf]; omega
        · obtain rfl : j = ndig (s.data.toList.drop i) := by omega
          have H0 := Lib.hid hlen; clear hlen
          have HA := Lib.hid hall; clear hall
          have HP := Lib.hid hpre; clear hpre
          generalize hd : ndig (s.data.toList.drop i) = d at *
          have HD := Lib.hid hd; clear hd
          have hend : (s.size : Int) ≤ i + d ∨ ((i : Int) + d < s.size ∧ (byt s (i + d) < 48 ∨ 57 < byt s (i + d))) := by
            by_cases h : i + d < s.size
            · right
              refine ⟨by omega, ?_⟩
              have hl2 : d < (s.data.toList.drop i).length := by rw [List.length_drop, H0.out]; omega
              have h1 := ndig_at (s.data.toList.drop i) (by rw [HD.out]; exact hl2)
              have h2 := byt_drop s i d hl2
              simp only [HD.out, isDig, Bool.and_eq_false_iff, decide_eq_false_iff_not] at h1
              omega
            · left; omega
          by_cases hm8 : m = 8
          · have hm8b : ((m : Int) == 8) = true := by simp [hm8]
            have hfin : pre ++ [(0, (i : Int), 9)] = parts s.data.toList := by
              have := HA.out; rw [hm8] at this; rw [Nat.sub_self, partsGo_9] at this; rw [this]; simp only [parts, if_neg hne]
            have HF := Lib.hid hfin; clear hfin hm8 hne
            obtain ⟨fn, tmps, assign, body, hy, hR⟩ := hY pre (0, i, 9) (wa.setCell ⟨wr.heap.size, 2, none⟩ (.int .i64 9)) (hJw _ (hb1.setCell (Nat.le_refl _) _)) (by have := HP.out; omega)
            dsimp only [encP] at hy
            have hp2' := cellS (v := .int .i64 9) hp2
            rcases hend with hend | ⟨hend, hend2 | hend2⟩
            all_goals
              gi_wp2
              refine hR.mono ?_
              rintro e W3 (⟨rfl, hJ3, hk3⟩ | ⟨rfl, hJx3⟩)
              · have hq3 := kp_cell hk3 (b := wr.heap.size) 2 ((typ110 hp3).setCell _ _) hp2'
                gi_wp2
                refine bodyPost_ret (results_none rfl _ _ _) rfl ?_
                exact ⟨⟨_, rfl⟩, .inl ⟨_, HF.out, hJ3⟩⟩
              · gi_wp2
                refine bodyPost_ret (results_none rfl _ _ _) rfl ?_
                exact ⟨⟨_, rfl⟩, .inr ⟨_, ⟨[], by rw [List.append_nil]; exact HF.out⟩, hJx3⟩⟩
          · have hm8b : ((m : Int) == 8) = false := by rw [beq_eq_false_iff_ne]; omega
            have hk8 : 0 < 8 - m := by omega
            by_cases hie : i = s.size
            · have hieb : ((i : Int) == s.size) = true := by rw [beq_iff_eq]; omega
              have hfin : pre ++ [(0, (i : Int), 4)] = parts s.data.toList := by
                have := HA.out; rw [partsGo_4 hk8 i (by rw [List.drop_eq_nil_iff, H0.out]; omega)] at this; rw [this]; simp only [parts, if_neg hne]
              have HF := Lib.hid hfin; clear hfin hne
              clear hie
              obtain ⟨fn, tmps, assign, body, hy, hR⟩ := hY pre (0, i, 4) (wa.setCell ⟨wr.heap.size, 2, none⟩ (.int .i64 4)) (hJw _ (hb1.setCell (Nat.le_refl _) _)) (by have := HP.out; omega)
              dsimp only [encP] at hy
              have hp2' := cellS (v := .int .i64 4) hp2
              rcases hend with hend | ⟨hend, hend2 | hend2⟩
              all_goals
                gi_wp2
                refine hR.mono ?_
                rintro e W3 (⟨rfl, hJ3, hk3⟩ | ⟨rfl, hJx3⟩)
                · have hq3 := kp_cell hk3 (b := wr.heap.size) 2 ((typ110 hp3).setCell _ _) hp2'
                  gi_wp2
                  refine bodyPost_ret (results_none rfl _ _ _) rfl ?_
                  exact ⟨⟨_, rfl⟩, .inl ⟨_, HF.out, hJ3⟩⟩
                · gi_wp2
                  refine bodyPost_ret (results_none rfl _ _ _) rfl ?_
                  exact ⟨⟨_, rfl⟩, .inr ⟨_, ⟨[], by rw [List.append_nil]; exact HF.out⟩, hJx3⟩⟩
            · have hieb : ((i : Int) == s.size) = false := by rw [beq_eq_false_iff_ne]; omega
              have hilt : (i : Int) < s.size := by omega
              have hdn : s.data.toList.drop i ≠ [] := by
                intro e; rw [List.drop_eq_nil_iff, H0.out] at e; omega
              clear hie
              by_cases hd0 : d = 0
              · have hd0b : ((d : Int) == 0) = true := by rw [beq_iff_eq]; omega
                have hfin : pre ++ [(0, (i : Int), 6)] = parts s.data.toList := by
                  have := HA.out; rw [partsGo_6 hk8 i hdn (by rw [HD.out]; exact hd0)] at this; rw [this]; simp only [parts, if_neg hne]
                have HF := Lib.hid hfin; clear hfin hne
                clear hd0 hdn
                obtain ⟨fn, tmps, assign, body, hy, hR⟩ := hY pre (0, i, 6) (wa.setCell ⟨wr.heap.size, 2, none⟩ (.int .i64 6)) (hJw _ (hb1.setCell (Nat.le_refl _) _)) (by have := HP.out; omega)
                dsimp only [encP] at hy
                have hp2' := cellS (v := .int .i64 6) hp2
                rcases hend with hend | ⟨hend, hend2 | hend2⟩
                all_goals
                  gi_wp2
                  refine hR.mono ?_
                  rintro e W3 (⟨rfl, hJ3, hk3⟩ | ⟨rfl, hJx3⟩)
                  · have hq3 := kp_cell hk3 (b := wr.heap.size) 2 ((typ110 hp3).setCell _ _) hp2'
                    gi_wp2
                    refine bodyPost_ret (results_none rfl _ _ _) rfl ?_
                    exact ⟨⟨_, rfl⟩, .inl ⟨_, HF.out, hJ3⟩⟩
                  · gi_wp2
                    refine bodyPost_ret (results_none rfl _ _ _) rfl ?_
                    exact ⟨⟨_, rfl⟩, .inr ⟨_, ⟨[], by rw [List.append_nil]; exact HF.out⟩, hJx3⟩⟩
              · have hd0b : ((d : Int) == 0) = false := by rw [beq_eq_false_iff_ne]; omega
                have hx0 := byt_at s i
                have hhd : (s.data.toList.drop i).head? = some 48 ↔ byt s i = 48 := by
                  have h1 := byt_drop s i 0 (by rw [List.length_drop, H0.out]; omega)
                  rw [List.head?_eq_getElem?, List.getElem?_eq_getElem (by rw [List.length_drop, H0.out]; omega)]
                  rw [Nat.add_zero] at h1
                  rw [h1]
                  constructor
                  · intro e; injection e with e; rw [e]; rfl
                  · intro e; congr 1; exact UInt8.toNat_inj.1 (by have : (48 : UInt8).toNat = 48 := rfl; omega)
                have HH := Lib.hid hhd; clear hhd
                by_cases hz : byt s i = 48
                · have hzb : (byt s i == 48) = true := by rw [beq_iff_eq]; exact hz
                  have hfin : pre ++ [(0, (i : Int), 3)] = parts s.data.toList := by
                    have := HA.out; rw [partsGo_3 hk8 i hdn (by rw [HD.out]; exact hd0) (HH.out.2 hz)] at this; rw [this]; simp only [parts, if_neg hne]
                  have HF := Lib.hid hfin; clear hfin hne
                  clear hd0 hdn hz
                  obtain ⟨fn, tmps, assign, body, hy, hR⟩ := hY pre (0, i, 3) (wa.setCell ⟨wr.heap.size, 2, none⟩ (.int .i64 3)) (hJw _ (hb1.setCell (Nat.le_refl _) _)) (by have := HP.out; omega)
                  dsimp only [encP] at hy
                  have hp2' := cellS (v := .int .i64 3) hp2
                  rcases hend with hend | ⟨hend, hend2 | hend2⟩
                  all_goals
                    gi_wp2
                    refine hR.mono ?_
                    rintro e W3 (⟨rfl, hJ3, hk3⟩ | ⟨rfl, hJx3⟩)
                    · have hq3 := kp_cell hk3 (b := wr.heap.size) 2 ((typ110 hp3).setCell _ _) hp2'
                      gi_wp2
                      refine bodyPost_ret (results_none rfl _ _ _) rfl ?_
                      exact ⟨⟨_, rfl⟩, .inl ⟨_, HF.out, hJ3⟩⟩
                    · gi_wp2
                      refine bodyPost_ret (results_none rfl _ _ _) rfl ?_
                      exact ⟨⟨_, rfl⟩, .inr ⟨_, ⟨[], by rw [List.append_nil]; exact HF.out⟩, hJx3⟩⟩
                · have hzb : (byt s i == 48) = false := by rw [beq_eq_false_iff_ne]; exact hz
                  by_cases h6d : 6 < d
                  · have h6i : 6 < (d : Int) := by omega
                    have hfin : pre ++ [(0, (i : Int), 2)] = parts s.data.toList := by
                      have := HA.out; rw [partsGo_2 hk8 i hdn (by rw [HD.out]; exact hd0) (fun h => hz (HH.out.1 h)) (by rw [HD.out]; exact h6d)] at this; rw [this]; simp only [parts, if_neg hne]
                    have HF := Lib.hid hfin; clear hfin hne
                    clear hd0 hdn hz
                    obtain ⟨fn, tmps, assign, body, hy, hR⟩ := hY pre (0, i, 2) (wa.setCell ⟨wr.heap.size, 2, none⟩ (.int .i64 2)) (hJw _ (hb1.setCell (Nat.le_refl _) _)) (by have := HP.out; omega)
                    dsimp only [encP] at hy
                    have hp2' := cellS (v := .int .i64 2) hp2
                    rcases hend with hend | ⟨hend, hend2 | hend2⟩
                    all_goals
                      gi_wp2
                      refine hR.mono ?_
                      rintro e W3 (⟨rfl, hJ3, hk3⟩ | ⟨rfl, hJx3⟩)
                      · have hq3 := kp_cell hk3 (b := wr.heap.size) 2 ((typ110 hp3).setCell _ _) hp2'
                        gi_wp2
                        refine bodyPost_ret (results_none rfl _ _ _) rfl ?_
                        exact ⟨⟨_, rfl⟩, .inl ⟨_, HF.out, hJ3⟩⟩
                      · gi_wp2
                        refine bodyPost_ret (results_none rfl _ _ _) rfl ?_
                        exact ⟨⟨_, rfl⟩, .inr ⟨_, ⟨[], by rw [List.append_nil]; exact HF.out⟩, hJx3⟩⟩
                  · have h6i : ¬ 6 < (d : Int) := by omega
                    have hdle : i + d ≤ s.size := by rcases hend with h | h <;> omega
                    have hfin := partsGo_0 hk8 i hdn (by rw [HD.out]; exact hd0) (fun h => hz (HH.out.1 h)) (by rw [HD.out]; exact h6d)
                    rw [HD.out] at hfin
                    have HG := Lib.hid hfin; clear hfin
                    have htk : (s.extract i (i + d)).data.toList = (s.data.toList.drop i).take d := by
                      rw [Lib.extract_data]; congr 1; omega
                    have hts : (s.extract i (i + d)).size = d := by
                      rw [Lib.size_eq, htk, List.length_take, List.length_drop, H0.out]; omega
                    have hAt := fun W => hA (s.extract i (i + d)) W (by omega) (by omega) (by
                      rw [hts, htk]; exact ndig_take _ _ (by rw [HD.out]; omega))
                    rw [htk] at hAt
                    have hsl : ∀ W, (Instr.slice 9 (.string s) (some (.int .i64 i)) (some (.int .i64 (i + d))) none).run Tryz.prog W = .ok (.string (s.extract i (i + d))) W := fun W => by
                      have := run_slice_string (P := Tryz.prog) W 9 s .i64 .i64 i (i + d) Tryz.underlying9 (by omega) (by omega) (by omega)
                      rw [this]; rfl
                    generalize s.extract i (i + d) = sub at hAt hsl
                    have HS := Lib.hid hts; clear hts htk
                    clear hd0 hdn hz
                    obtain ⟨v, hv⟩ : ∃ v, v = dval ((s.data.toList.drop i).take d) := ⟨_, rfl⟩
                    rw [← hv] at hAt
                    have HV := Lib.hid hv; clear hv
                    by_cases hes : i + d = s.size
                    · have hesb : (((i : Int) + d) == s.size) = true := by rw [beq_iff_eq]; omega
                      have hend : (s.size : Int) ≤ i + d := by omega
                      have hall2 : pre ++ [(v, (i : Int), 0)] = parts s.data.toList := by
                        have h1 := HA.out
                        rw [HG.out, show (s.data.toList.drop i).drop d = [] from by rw [List.drop_drop, List.drop_eq_nil_iff, H0.out]; omega, ← HV.out] at h1
                        rw [show parts s.data.toList = partsGo 8 0 s.data.toList from by simp only [parts, if_neg hne]]
                        exact h1
                      have hpre2 : (pre ++ [(v, (i : Int), 0)]) <+: parts s.data.toList := ⟨[], by rw [List.append_nil]; exact hall2⟩
                      have HALL := Lib.hid hall2
                      have HPRE := Lib.hid hpre2
                      clear hall2 hpre2 hne hes
                      gi_wp2_with fail
                      refine ⟨trivial, callsIn_wide.2 ((hAt _).mono ?_)⟩
                      rintro e w1 ⟨rfl, hb2⟩
                      have q0 := (hb2.cell (p := ⟨wr.heap.size, 0, none⟩) hpb2).trans hp0
                      have q1 := (hb2.cell (p := ⟨wr.heap.size, 1, none⟩) hpb2).trans hp1
                      have q2 := (hb2.cell (p := ⟨wr.heap.size, 2, none⟩) hpb2).trans hp2
                      have qf := (hb2.frozen (p := ⟨wr.heap.size, 0, none⟩) hpb2).trans hf0
                      have qt := (typ110 hp3).below hb2 hpb2
                      have qs := (hb2.cell (p := ⟨Bn, 0, none⟩) (World.block_lt_of_cell? wa _ hc1)).trans hc1
                      have qh := (hb2.block Bn (Array.getElem?_eq_some_iff.1 hch1).1).trans hch1
                      have hbb := below_then hb1 (Nat.le_of_lt hpb2) hb2
                      have hz1 := hb2.size
                      clear hch1 hc1 hp0 hp1 hp2 hp3 hf0 hf2 hb1 hb2
                      obtain ⟨fn, tmps, assign, body, hy, hR⟩ := hY pre (v, i, 0) (w1.setCell ⟨wr.heap.size, 0, none⟩ (.int .i64 v)) (hJw _ (hbb.setCell (Nat.le_refl _) _)) (by have := HP.out; omega)
                      dsimp only [encP] at hy
                      have q0' := cellS (v := .int .i64 v) q0
                      gi_wp2
                      refine hR.mono ?_
                      rintro e W3 (⟨rfl, hJ3, hk3⟩ | ⟨rfl, hJx3⟩)
                      rotate_left
                      · gi_wp2
                        refine bodyPost_ret (results_none rfl _ _ _) rfl ?_
                        exact ⟨⟨_, rfl⟩, .inr ⟨_, HPRE.out, hJx3⟩⟩
                      have hq3 := kp_cell hk3 (b := wr.heap.size) 2 (qt.setCell _ _) (cellN (p := ⟨wr.heap.size, 0, none⟩) (v := .int .i64 v) (by simp) q2)
                      have hch3 := hk3 Bn _ 9 _ (.inl rfl) ((Below.heap_setCell w1 ⟨wr.heap.size, 0, none⟩ (.int .i64 v) Bn hbne).trans qh)
                      have hs3 := cell_of_heap hch3 0 (.string s) rfl
                      clear hk3 q0 q1 q2 qf qt qs q0' hbb hz1 hR hy qh
                      gi_wp2
                      refine bodyPost_ret (results_none rfl _ _ _) rfl ?_
                      exact ⟨⟨_, rfl⟩, .inl ⟨_, HALL.out, hJ3⟩⟩
                    · have hesb : (((i : Int) + d) == s.size) = false := by rw [beq_eq_false_iff_ne]; omega
                      have hend1 : (i : Int) + d < s.size := by omega
                      have hend2 : byt s (i + d) < 48 ∨ 57 < byt s (i + d) := by
                        rcases hend with h | ⟨_, h⟩
                        · omega
                        · exact h
                      clear hend hes
                      have hxd := byt_at s (i + d)
                      have hdr : (s.data.toList.drop i).drop d = s.data.toList[i + d]'(by rw [H0.out]; omega) :: s.data.toList.drop (i + d + 1) := by
                        rw [List.drop_drop]; exact List.drop_eq_getElem_cons (by rw [H0.out]; omega)
                      have hbd : byt s (i + d) = ((s.data.toList[i + d]'(by rw [H0.out]; omega)).toNat : Int) := by
                        have h1 := byt_drop s (i + d) 0 (by rw [List.length_drop, H0.out]; omega)
                        rw [Nat.add_zero] at h1; rw [h1]; simp
                      have h1 := HA.out
                      rw [HG.out, hdr, ← HV.out] at h1
                      rw [show partsGo 8 0 s.data.toList = parts s.data.toList from by simp only [parts, if_neg hne]] at h1
                      by_cases h46 : byt s (i + d) = 46
                      · have h46b : (byt s (i + d) != 46) = false := by rw [bne_eq_false_iff_eq]; exact h46
                        have hlo : byt s (i + d) < 48 := by omega
                        have hc46 : s.data.toList[i + d]'(by rw [H0.out]; omega) = 46 := UInt8.toNat_inj.1 (by have : (46 : UInt8).toNat = 46 := rfl; omega)
                        rw [hc46] at h1
                        simp only [if_true] at h1
                        have hall2 : (pre ++ [(v, (i : Int), 0)]) ++ partsGo (8 - (m + 1)) (i + d + 1) (s.data.toList.drop (i + d + 1)) = partsGo 8 0 s.data.toList := by
                          rw [show partsGo 8 0 s.data.toList = parts s.data.toList from by simp only [parts, if_neg hne], ← h1]
                          simp only [List.append_assoc, List.cons_append, List.nil_append, Nat.sub_sub]
                        have hpre2 : (pre ++ [(v, (i : Int), 0)]) <+: parts s.data.toList := ⟨_, by rw [List.append_assoc]; exact h1⟩
                        have HALL := Lib.hid hall2
                        have HPRE := Lib.hid hpre2
                        clear hall2 hpre2 hne h1 hc46 hdr hbd h46 hend2
                        gi_wp2_with fail
                        refine ⟨trivial, callsIn_wide.2 ((hAt _).mono ?_)⟩
                        rintro e w1 ⟨rfl, hb2⟩
                        have q0 := (hb2.cell (p := ⟨wr.heap.size, 0, none⟩) hpb2).trans hp0
                        have q1 := (hb2.cell (p := ⟨wr.heap.size, 1, none⟩) hpb2).trans hp1
                        have q2 := (hb2.cell (p := ⟨wr.heap.size, 2, none⟩) hpb2).trans hp2
                        have qf := (hb2.frozen (p := ⟨wr.heap.size, 0, none⟩) hpb2).trans hf0
                        have qt := (typ110 hp3).below hb2 hpb2
                        have qs := (hb2.cell (p := ⟨Bn, 0, none⟩) (World.block_lt_of_cell? wa _ hc1)).trans hc1
                        have qh := (hb2.block Bn (Array.getElem?_eq_some_iff.1 hch1).1).trans hch1
                        have hbb := below_then hb1 (Nat.le_of_lt hpb2) hb2
                        have hz1 := hb2.size
                        clear hch1 hc1 hp0 hp1 hp2 hp3 hf0 hf2 hb1 hb2
                        obtain ⟨fn, tmps, assign, body, hy, hR⟩ := hY pre (v, i, 0) (w1.setCell ⟨wr.heap.size, 0, none⟩ (.int .i64 v)) (hJw _ (hbb.setCell (Nat.le_refl _) _)) (by have := HP.out; omega)
                        dsimp only [encP] at hy
                        have q0' := cellS (v := .int .i64 v) q0
                        gi_wp2
                        refine hR.mono ?_
                        rintro e W3 (⟨rfl, hJ3, hk3⟩ | ⟨rfl, hJx3⟩)
                        rotate_left
                        · gi_wp2
                          refine bodyPost_ret (results_none rfl _ _ _) rfl ?_
                          exact ⟨⟨_, rfl⟩, .inr ⟨_, HPRE.out, hJx3⟩⟩
                        have hq3 := kp_cell hk3 (b := wr.heap.size) 2 (qt.setCell _ _) (cellN (p := ⟨wr.heap.size, 0, none⟩) (v := .int .i64 v) (by simp) q2)
                        have hch3 := hk3 Bn _ 9 _ (.inl rfl) ((Below.heap_setCell w1 ⟨wr.heap.size, 0, none⟩ (.int .i64 v) Bn hbne).trans qh)
                        have hs3 := cell_of_heap hch3 0 (.string s) rfl
                        clear hk3 q0 q1 q2 qf qt qs q0' hbb hz1 hR hy qh
                        gi_wp2
                        go_roundw
                        case rel => exact ⟨i + d + 1, m + 1, pre ++ [(v, (i : Int), 0)], by go_num, by go_num, by omega, by omega, by rw [List.length_append, HP.out]; rfl, HALL.out, hch3, hJ3, fun h => absurd h HNE.out⟩
                        case measure => simp [intOf]; omega
                      · have h46b : (byt s (i + d) != 46) = true := by rw [bne_iff_ne]; exact h46
                        have hc46 : s.data.toList[i + d]'(by rw [H0.out]; omega) ≠ 46 := fun e => h46 (by rw [hbd, e]; rfl)
                        dsimp only at h1; rw [if_neg hc46] at h1
                        have hall2 : (pre ++ [(v, (i : Int), 0)]) ++ [(0, (i : Int) + d, 6)] = parts s.data.toList := by
                          rw [← h1]; simp only [List.append_assoc, List.cons_append, List.nil_append]
                        have hpre2 : (pre ++ [(v, (i : Int), 0)]) <+: parts s.data.toList := ⟨_, hall2⟩
                        have HALL := Lib.hid hall2
                        have HPRE := Lib.hid hpre2
                        clear hall2 hpre2 hne h1 hc46 hdr hbd h46
                        rcases hend2 with hlo | hhi
                        all_goals
                          gi_wp2_with fail
                          refine ⟨trivial, callsIn_wide.2 ((hAt _).mono ?_)⟩
                          rintro e w1 ⟨rfl, hb2⟩
                          have q0 := (hb2.cell (p := ⟨wr.heap.size, 0, none⟩) hpb2).trans hp0
                          have q1 := (hb2.cell (p := ⟨wr.heap.size, 1, none⟩) hpb2).trans hp1
                          have q2 := (hb2.cell (p := ⟨wr.heap.size, 2, none⟩) hpb2).trans hp2
                          have qf := (hb2.frozen (p := ⟨wr.heap.size, 0, none⟩) hpb2).trans hf0
                          have qt := (typ110 hp3).below hb2 hpb2
                          have qs := (hb2.cell (p := ⟨Bn, 0, none⟩) (World.block_lt_of_cell? wa _ hc1)).trans hc1
                          have qh := (hb2.block Bn (Array.getElem?_eq_some_iff.1 hch1).1).trans hch1
                          have hbb := below_then hb1 (Nat.le_of_lt hpb2) hb2
                          have hz1 := hb2.size
                          clear hch1 hc1 hp0 hp1 hp2 hp3 hf0 hf2 hb1 hb2
                          obtain ⟨fn, tmps, assign, body, hy, hR⟩ := hY pre (v, i, 0) (w1.setCell ⟨wr.heap.size, 0, none⟩ (.int .i64 v)) (hJw _ (hbb.setCell (Nat.le_refl _) _)) (by have := HP.out; omega)
                          dsimp only [encP] at hy
                          have q0' := cellS (v := .int .i64 v) q0
                          gi_wp2
                          refine hR.mono ?_
                          rintro e W3 (⟨rfl, hJ3, hk3⟩ | ⟨rfl, hJx3⟩)
                          rotate_left
                          · gi_wp2
                            refine bodyPost_ret (results_none rfl _ _ _) rfl ?_
                            exact ⟨⟨_, rfl⟩, .inr ⟨_, HPRE.out, hJx3⟩⟩
                          have hq3 := kp_cell hk3 (b := wr.heap.size) 2 (qt.setCell _ _) (cellN (p := ⟨wr.heap.size, 0, none⟩) (v := .int .i64 v) (by simp) q2)
                          have hch3 := hk3 Bn _ 9 _ (.inl rfl) ((Below.heap_setCell w1 ⟨wr.heap.size, 0, none⟩ (.int .i64 v) Bn hbne).trans qh)
                          have hs3 := cell_of_heap hch3 0 (.string s) rfl
                          clear hk3 q0 q1 q2 qf qt qs q0' hbb hz1 hR hy qh
                          obtain ⟨fn, tmps, assign, body, hy, hR⟩ := hY (pre ++ [(v, (i : Int), 0)]) (0, (i : Int) + d, 6) W3 hJ3 (by rw [List.length_append, HP.out]; simp; omega)
                          dsimp only [encP] at hy
                          gi_wp2
                          refine hR.mono ?_
                          rintro e W4 (⟨rfl, hJ4, hk4⟩ | ⟨rfl, hJx4⟩)
                          · gi_wp2
                            refine bodyPost_ret (results_none rfl _ _ _) rfl ?_
                            exact ⟨⟨_, rfl⟩, .inl ⟨_, HALL.out, hJ4⟩⟩
                          · gi_wp2
                            refine bodyPost_ret (results_none rfl _ _ _) rfl ?_
                            exact ⟨⟨_, rfl⟩, .inr ⟨_, ⟨[], by rw [List.append_nil]; exact HALL.out⟩, hJx4⟩⟩
    · have hneb : (!s.toList.isEmpty) = false := by rw [Lib.toList_data]; simpa using hne
      have he : s.data.toList = [] := by simpa using hne
      gi_wp2
      go_end0
      refine ⟨⟨_, rfl⟩, .inl ⟨pre, ?_, hj⟩⟩
      rw [hnil he, he]; rfl
end Go.Proofs.YtcbgngkalplafaaGreatDoor
