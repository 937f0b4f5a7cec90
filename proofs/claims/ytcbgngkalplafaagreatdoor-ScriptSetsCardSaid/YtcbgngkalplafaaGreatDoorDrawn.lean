/- No step of the machine takes back a draw: the count of what has been drawn off the tape only grows. -/
import Derived.Lone
import Derived.RunT
import Derived.Calls
namespace Go.Proofs.YtcbgngkalplafaaGreatDoor
open Go

theorem ask_drawn {α : Type} (k : Ask α) : ∀ w : World, w.drawn ≤ (w.ask k).2.drawn := by
  induction k with
  | done a => intro w; exact Nat.le_refl _
  | ask what range k ih =>
    intro w
    unfold World.ask
    simp only []
    split
    · exact ih _ w
    · exact Nat.le_trans (Nat.le_succ _) (ih _ { w with drawn := w.drawn + 1 })

theorem sys_drawn (w : World) (c : Sys) : w.drawn ≤ (w.sys c).2.drawn := by
  have h := ask_drawn (Kernel.perform c w.os) w
  unfold World.sys
  split
  · exact Nat.le_refl _
  · rename_i r os w' _ he
    rw [he] at h
    exact h

def Result.wd {α : Type} : Result α → World
  | .ok _ w => w
  | .halt _ w => w

theorem farStore_drawn {p : Program} {w w' : World} {a : Addr} {v : Value} {b : Bool} {l : List Addr} (h : w.farStore p a v b = .ok (w', l)) : w.drawn ≤ w'.drawn := by
  unfold World.farStore at h
  split at h
  · split at h
    · rename_i r hr
      cases h
      simp only [World.viewStore, bind, Except.bind, pure, Except.pure] at hr
      repeat' first
        | (cases hr; done)
        | (cases hr; exact Nat.le_refl _)
        | split at hr
    · cases h
  · cases h

theorem run_drawn {α : Type} (p : Program) (s : Sem α) : ∀ w : World, w.drawn ≤ (Result.wd (s.run p w)).drawn := by
  induction s with
  | pure a => intro w; exact Nat.le_refl _
  | load m a k ih =>
    intro w
    unfold Sem.run
    split
    · exact ih _ w
    · split
      · exact ih _ w
      · exact Nat.le_refl _
  | store m a v k ih =>
    intro w
    cases v
    all_goals simp only [Sem.run]
    all_goals first
      | exact Nat.le_refl _
      | (split
         · split
           · exact Nat.le_refl _
           · exact ih (w.setCell a _)
         · split
           · rename_i h; exact Nat.le_trans (farStore_drawn h) (ih _)
           · exact Nat.le_refl _)
  | new o k ih => intro w; exact ih _ { w with heap := w.heap.push o }
  | shape r k ih => intro w; exact ih _ w
  | freeze a n k ih =>
    intro w
    have := ih (w.freeze a n)
    unfold World.freeze at this
    split at this
    · unfold Sem.run World.freeze; rw [if_pos (by assumption)]; exact this
    · unfold Sem.run World.freeze; rw [if_neg (by assumption)]; exact this
  | frozen a k ih => intro w; exact ih _ w
  | getObj r k ih =>
    intro w
    unfold Sem.run
    split
    · exact Nat.le_refl _
    · exact ih _ w
    · exact Nat.le_refl _
  | setObj r o k ih =>
    intro w
    unfold Sem.run
    split
    · exact Nat.le_refl _
    · exact ih { w with heap := w.heap.setIfInBounds r o }
    · exact Nat.le_refl _
  | choose q k ih =>
    intro w
    unfold Sem.run
    split
    · exact ih _ w
    · exact Nat.le_trans (Nat.le_succ _) (ih _ { w with drawn := w.drawn + 1 })
  | sys c k ih => intro w; exact Nat.le_trans (sys_drawn w c) (ih _ _)
  | program k ih => intro w; exact ih p w
  | mark m k ih => intro w; exact ih w
  | halt h => intro w; exact Nat.le_refl _

/-- The step's world has drawn no less than w had; of an end nothing is said. -/
def Dr (w : World) : GStep → Prop
  | .go _ w' _ | .comm _ _ _ _ w' _ | .spawn _ _ w' _ | .count _ w' _ | .timer _ _ w' _ | .alone _ _ w' _ | .newcoro _ _ _ w' _ | .coroswitch _ _ _ w' _ | .collect _ w' _ | .watch _ w' _ => w.drawn ≤ w'.drawn
  | .ended _ _ _ => True
theorem Dr.after {w : World} {es : Array Event} {s : GStep} (h : Dr w s) : Dr w (GStep.after es s) := by cases s <;> exact h
theorem Dr.le {w w' : World} {s : GStep} (h : Dr w' s) (hw : w.drawn ≤ w'.drawn) : Dr w s := by cases s <;> first | exact trivial | exact Nat.le_trans hw h

theorem runT_drawn {α : Type} (p : Program) (s : Sem α) (w : World) (es : Array Event) : w.drawn ≤ (Result.wd (s.runT p w es).1).drawn := by
  rw [Sem.runT_fst]; exact run_drawn p s w
theorem run_ok {α : Type} {p : Program} {s : Sem α} {w w' : World} {a : α} (h : s.run p w = .ok a w') : w.drawn ≤ w'.drawn := by
  have := run_drawn p s w; rw [h] at this; exact this
theorem run_halt {α : Type} {p : Program} {s : Sem α} {w w' : World} {e : Halt} (h : s.run p w = .halt e w') : w.drawn ≤ w'.drawn := by
  have := run_drawn p s w; rw [h] at this; exact this

theorem runT_ok {α : Type} {p : Program} {s : Sem α} {w w' : World} {a : α} {es es' : Array Event} (h : s.runT p w es = (.ok a w', es')) : w.drawn ≤ w'.drawn := by
  have := runT_drawn p s w es; rw [h] at this; exact this
theorem runT_halt {α : Type} {p : Program} {s : Sem α} {w w' : World} {e : Halt} {es es' : Array Event} (h : s.runT p w es = (.halt e w', es')) : w.drawn ≤ w'.drawn := by
  have := runT_drawn p s w es; rw [h] at this; exact this
theorem dr_endWith (w : World) (fd : Nat) (text : ByteArray) (o : Outcome) : Dr w (endWith w fd text o) := by
  unfold endWith
  simp only []
  repeat' first
    | exact trivial
    | split
theorem dr_endThrow (fr : Frame) (m : String) (w : World) : Dr w (endThrow fr m w) := Nat.le_refl _
theorem dr_endPrinting (p : Program) (fr : Frame) (v : Value) (w : World) : Dr w (endPrinting p fr v w) := by
  unfold endPrinting
  simp only []
  split
  · exact dr_endThrow _ _ _
  · exact trivial
theorem dr_endFatal (p : Program) (fr : Frame) (cs : List Frame) (d : Option Dying) (m : String) (w : World) : Dr w (endFatal p fr cs d m w) := by
  unfold endFatal
  simp only []
  split
  · rename_i h; exact run_ok h
  · exact trivial
  · exact trivial
theorem dr_writeOn (p : Program) (fr : Frame) (d : Dying) (f : Fatal) (w : World) : Dr w (writeOn p fr d f w) := by
  unfold writeOn
  simp only []
  split
  · exact trivial
  · split
    · rename_i h; exact runT_ok h
    · rename_i h; exact runT_halt h
    · exact trivial
    · exact trivial
theorem dr_die (p : Program) (fr : Frame) (d : Dying) (w : World) : Dr w (die p fr d w) := by
  unfold die
  simp only []
  split
  · exact dr_writeOn _ _ _ _ _
  · split
    · split
      · exact Nat.le_refl _
      · exact dr_endWith _ _ _ _
    · split
      · exact Nat.le_refl _
      · split
        · rename_i h; exact run_ok h
        · exact trivial
      · refine Dr.after ?_
        generalize hr : Sem.runT p _ w #[] = r
        obtain ⟨r, es⟩ := r
        simp only []
        split
        all_goals first
          | exact trivial
          | exact runT_ok hr
          | exact (dr_endPrinting _ _ _ _).le (runT_halt hr)
      · exact trivial
theorem dr_doReturn (p : Program) (main : Bool) (fr : Frame) (cs : List Frame) (d : Option Dying) (v : Value) (w : World) : Dr w (doReturn p main fr cs d v w) := by
  unfold doReturn
  repeat' first
    | exact trivial
    | exact Nat.le_refl _
    | split
theorem dr_callDeferred (p : Program) (fr : Frame) (cs : List Frame) (d : Option Dying) (x : Deferred) (w : World) : Dr w (callDeferred p fr cs d x w) := by
  unfold callDeferred
  generalize (((match x.target with | .nil => true | _ => false) && (match fr.mode with | .panicking _ => true | _ => false)) : Bool) = c
  cases c
  · simp only [Bool.false_eq_true, if_false]
    refine Dr.after ?_
    generalize hr : Sem.runT p _ w #[] = r
    obtain ⟨r, es⟩ := r
    simp only []
    repeat' first
      | exact trivial
      | exact runT_ok hr
      | exact runT_halt hr
      | exact (dr_endFatal _ _ _ _ _ _).le (runT_halt hr)
      | exact (dr_endThrow _ _ _).le (runT_halt hr)
      | split
  · simp only [if_true]
    exact trivial
theorem dr_unwind (p : Program) (main : Bool) (fr : Frame) (cs : List Frame) (d : Option Dying) (w : World) : Dr w (unwind p main fr cs d w) := by
  unfold unwind
  split
  · simp only []
    refine Dr.after ?_
    generalize hr : Sem.runT p _ w #[] = r
    obtain ⟨r, es⟩ := r
    simp only []
    cases r with
    | ok a w' => exact runT_ok hr
    | halt e w' => exact trivial
  · exact dr_callDeferred _ _ _ _ _ _
  · split
    · exact trivial
    · split
      · exact trivial
      · split
        · exact Nat.le_refl _
        · split
          · split
            · exact Nat.le_refl _
            · split
              · rename_i h; exact run_ok h
              · exact trivial
              · exact trivial
          · split
            · exact dr_endPrinting _ _ _ _
            · exact trivial
    · split
      · exact dr_doReturn _ _ _ _ _ _ _
      · simp only []
        refine Dr.after ?_
        generalize hr : Sem.runT p _ w #[] = r
        obtain ⟨r, es⟩ := r
        simp only []
        cases r with
        | ok a w' => exact (dr_doReturn _ _ _ _ _ _ _).le (runT_ok hr)
        | halt e w' => cases e <;> exact trivial
theorem dr_early (p : Program) (fr : Frame) (cs : List Frame) (d : Option Dying) (g : Nat) (w : World) : Dr w (early p fr cs d g w) := by
  have hn : ∀ w' : World, w.drawn ≤ w'.drawn → Dr w (match w'.heap[g]? with
      | some (.pending c elem) => .go { frame := fr, callers := cs, status := .running, dying := d } { w' with heap := w'.heap.setIfInBounds g (.cells c elem) }
      | _ => .ended (.stuck "early: the variable does not wait" (fr.pos p)) w') := fun w' h => by
    split
    · exact h
    · exact trivial
  unfold early
  simp only []
  split
  · exact hn w (Nat.le_refl _)
  · split
    · exact trivial
    · split
      · exact hn w (Nat.le_refl _)
      · split
        · exact hn w (Nat.le_refl _)
        · split
          · exact trivial
          · exact Nat.le_refl _
          · exact trivial
          · exact hn w (Nat.le_refl _)
          · split
            · exact Nat.le_refl _
            · split
              · exact hn w (Nat.le_refl _)
              · split
                · rename_i h; exact hn _ (run_ok h)
                · rename_i h; first | exact run_ok h | exact run_ok (by assumption)
                · exact trivial

theorem dr_apply (p : Program) (listen : Bool) (fr : Frame) (cs : List Frame) (d : Option Dying) (s : Sem Next) (w : World) : Dr w (stepG.apply p listen fr cs d s w) := by
  unfold stepG.apply
  simp only []
  have hgen : ∀ r : Result Next × Array Event, (∀ a w', r.1 = .ok a w' → w.drawn ≤ w'.drawn) → (∀ e w', r.1 = .halt e w' → w.drawn ≤ w'.drawn) → True := fun _ _ _ => trivial
  have h1 : ∀ (a : Next) (w' : World), (if listen then s.runT p w #[] else (s.run p w, #[])).1 = .ok a w' → w.drawn ≤ w'.drawn := by
    intro a w' h
    cases listen
    · exact run_ok h
    · have := runT_drawn p s w #[]; rw [if_pos rfl] at h; rw [h] at this; exact this
  have h2 : ∀ (e : Halt) (w' : World), (if listen then s.runT p w #[] else (s.run p w, #[])).1 = .halt e w' → w.drawn ≤ w'.drawn := by
    intro a w' h
    cases listen
    · exact run_halt h
    · have := runT_drawn p s w #[]; rw [if_pos rfl] at h; rw [h] at this; exact this
  generalize (if listen then s.runT p w #[] else (s.run p w, #[])) = r at h1 h2 ⊢
  obtain ⟨r, es⟩ := r
  refine Dr.after ?_
  simp only [] at h1 h2 ⊢
  clear hgen
  repeat' first
    | exact trivial
    | exact h1 _ _ rfl
    | exact h2 _ _ rfl
    | exact (dr_endFatal _ _ _ _ _ _).le (h2 _ _ rfl)
    | exact (dr_endThrow _ _ _).le (h2 _ _ rfl)
    | exact (dr_endThrow _ _ _).le (h1 _ _ rfl)
    | exact (dr_early _ _ _ _ _ _).le (h2 _ _ rfl)
    | split

theorem dr_oper (p : Program) (listen : Bool) (fr : Frame) (cs : List Frame) (d : Option Dying) (w : World) : Dr w (stepG.oper p listen fr cs d w) := by
  unfold stepG.oper
  repeat' first
    | exact trivial
    | exact dr_apply _ _ _ _ _ _ _
    | split
theorem fst_ok {α : Type} {p : Program} {s : Sem α} {w w' : World} {a : α} {es : Array Event} (h : (s.runT p w es).1 = .ok a w') : w.drawn ≤ w'.drawn := by
  have := runT_drawn p s w es; rw [h] at this; exact this
theorem fst_halt {α : Type} {p : Program} {s : Sem α} {w w' : World} {e : Halt} {es : Array Event} (h : (s.runT p w es).1 = .halt e w') : w.drawn ≤ w'.drawn := by
  have := runT_drawn p s w es; rw [h] at this; exact this
theorem dr_elim {α : Type} {w : World} {o : Option α} {a : GStep} {f : α → GStep} (h1 : Dr w a) (h2 : ∀ x, Dr w (f x)) : Dr w (o.elim a f) := by
  cases o
  · exact h1
  · exact h2 _
theorem dr_exec (p : Program) (main listen : Bool) (fr : Frame) (cs : List Frame) (d : Option Dying) (w : World) : Dr w (stepG.exec p main listen fr cs d w) := by
  unfold stepG.exec
  simp only []
  repeat' first
    | exact trivial
    | exact Nat.le_refl _
    | exact dr_apply _ _ _ _ _ _ _
    | exact dr_oper _ _ _ _ _ _
    | exact (dr_doReturn _ _ _ _ _ _ _).le (fst_ok (by assumption))
    | exact (dr_apply _ _ _ _ _ _ _).le (fst_ok (by assumption))
    | exact fst_ok (by assumption)
    | exact fst_halt (by assumption)
    | exact run_ok (by assumption)
    | refine Dr.after ?_
    | refine dr_elim ?_ (fun _ => ?_)
    | split
theorem dr_step (p : Program) (main : Bool) (g : Goroutine) (w : World) (listen : Bool) : Dr w (stepG p main g w listen) := by
  unfold stepG
  simp only []
  split
  · exact dr_die _ _ _ _
  · exact dr_exec _ _ _ _ _ _ _
  · exact dr_unwind _ _ _ _ _ _

def DrS (w : World) : Stepped → Prop
  | .next m => w.drawn ≤ m.world.drawn
  | .ended _ _ => True
theorem DrS.of {w : World} {m : Machine} (h : w.drawn ≤ m.world.drawn) : DrS w (.next m) := h
theorem DrS.le {w w' : World} {s : Stepped} (h : DrS w' s) (hw : w.drawn ≤ w'.drawn) : DrS w s := by cases s <;> first | exact trivial | exact Nat.le_trans hw h

theorem run_ok' {α : Type} {p : Program} {s : Sem α} {w w' : World} {a : α} {n : Nat} (h : s.run p w = .ok a w') (e : n = w'.drawn) : w.drawn ≤ n := by rw [e]; exact run_ok h
theorem run_halt' {α : Type} {p : Program} {s : Sem α} {w w' : World} {x : Halt} {n : Nat} (h : s.run p w = .halt x w') (e : n = w'.drawn) : w.drawn ≤ n := by rw [e]; exact run_halt h
theorem drs_look (p : Program) (gs : Array Goroutine) (rest : Rest) (w : World) : DrS w (look p gs rest w) := by
  unfold look
  simp only []
  split
  · split
    · exact trivial
    · split
      · exact trivial
      · split
        · rename_i h
          have h1 := run_ok h
          exact h1
        · exact trivial
        · exact trivial
  · exact trivial
theorem drs_serve (p : Program) (m : Machine) (k : Nat) : DrS m.world (serve p m k) := by
  unfold serve
  simp only []
  repeat' first
    | exact trivial
    | exact Nat.le_refl _
    | split
theorem waitingAt_drawn {rest : Rest} {cases : Array CommCase} {w w' : World} (h : waitingAt rest cases w = some w') : w.drawn ≤ w'.drawn := by
  unfold waitingAt at h
  repeat' first
    | (cases h; done)
    | (cases h; exact Nat.le_refl _)
    | split at h
theorem drs_communicate (p : Program) (rest : Rest) (gs : Array Goroutine) (i : Nat) (g : Goroutine) (cases : Array CommCase) (blocking : Bool)
    (shape : CommShape) (w : World) : DrS w (communicate p rest gs i g cases blocking shape w).1 := by
  unfold communicate
  simp only []
  split
  · exact trivial
  · split
    · split
      · split
        · rename_i h; exact waitingAt_drawn h
        · exact trivial
      · exact Nat.le_refl _
    · split
      · exact trivial
      · rename_i h
        have h1 := run_ok h
        repeat' first
          | exact trivial
          | exact h1
          | (rename_i h2; exact Nat.le_trans h1 (run_ok h2))
          | (rename_i h2; exact Nat.le_trans h1 (run_halt h2))
          | (rename_i h2 _ _ _; have h3 := run_ok h2; exact Nat.le_trans h1 h3)
          | (rename_i h2 _ _; have h3 := run_ok h2; exact Nat.le_trans h1 h3)
          | split

theorem timerOp_drawn {m m' : Machine} {op : TimerOp} {v : Value} (h : timerOp m op = .ok (v, m')) : m.world.drawn ≤ m'.world.drawn := by
  have hre : ∀ (m : Machine) (k : Nat) (t : Timer) (a b : Nat), m.world.drawn ≤ (retime m k t a b).2.world.drawn := by
    intro m k t a b
    have hd : ∀ c : Nat, m.world.drawn ≤ (drain m.world c).2.drawn := by
      intro c
      unfold drain
      split <;> exact Nat.le_refl _
    unfold retime
    cases t.chan with
    | none => exact Nat.le_refl _
    | some c => exact hd c
  have hn : ∀ (m0 : Machine) (var : Addr) (f : Nat → Timer → Value × Machine), (∀ k t, m0.world.drawn ≤ (f k t).2.world.drawn) → timerOp.named m var f = .ok (v, m') → m0.world.drawn ≤ m'.world.drawn := by
    intro m0 var f hf h
    unfold timerOp.named at h
    split at h
    · rename_i c _
      have := hf c (m.rest.timers.getD c default)
      injection h with h
      rw [h] at this
      exact this
    · cases h
  unfold timerOp at h
  split at h
  · repeat' first
      | (cases h; done)
      | (cases h; exact Nat.le_refl _)
      | split at h
  · exact hn m _ _ (fun k t => hre m k t _ _) h
  · split at h
    · rename_i m1 h1
      have h2 : m.world.drawn ≤ m1.world.drawn := by
        unfold timerOp.opened at h1
        repeat' first
          | (cases h1; done)
          | (cases h1; exact Nat.le_refl _)
          | split at h1
      exact Nat.le_trans h2 (hn m1 _ _ (fun k t => hre m1 k t _ _) h)
    · cases h
  · cases h; exact Nat.le_refl _
theorem drs_runT (p : Program) (m : Machine) (i : Nat) (b : Bool) : DrS m.world (runT p m i b).1 := by
  unfold runT
  simp only []
  generalize m.gs.swapAt! _ _ = gg
  have h := dr_step p (i == 0) gg.1 m.world b
  generalize stepG p _ gg.1 m.world b = s at h ⊢
  cases s
  all_goals simp only [Dr] at h ⊢
  all_goals first
    | exact trivial
    | exact h
    | exact (drs_communicate _ _ _ _ _ _ _ _ _).le h
    | exact (drs_look _ _ _ _).le h
    | (repeat' first
        | exact trivial
        | exact h
        | (rename_i h2; exact Nat.le_trans h (timerOp_drawn h2))
        | split)
def DrM (w : World) : Move → Prop
  | .goroutine m _ => w.drawn ≤ m.world.drawn
  | .machine s _ => DrS w s
theorem DrM.le {w w' : World} {s : Move} (h : DrM w' s) (hw : w.drawn ≤ w'.drawn) : DrM w s := by
  cases s with
  | goroutine m i => exact Nat.le_trans hw h
  | machine s o => exact DrS.le h hw
theorem drm_askOn (p : Program) (m : Machine) : DrM m.world (askOn p m) := by
  unfold askOn
  simp only []
  split
  · exact trivial
  · rename_i k w1 h1
    have h1 := run_ok h1
    split
    · exact (drs_serve _ _ _).le h1
    · have hp : ∀ m' : Machine, m.world.drawn ≤ m'.world.drawn → DrM m.world
          (match (choose (.sched (runnable m.gs m.world.os.mono).length)).run p m'.world with
          | .halt _ w => .machine (.ended (.stuck "sched" "") w)
          | .ok k world =>
            if (runnable m.gs m.world.os.mono).length ≤ 1 then .goroutine { m' with world } ((runnable m.gs m.world.os.mono).getD k 0) else
            match (choose (.extern "sched.slice" 65536)).run p world with
            | .halt _ w => .machine (.ended (.stuck "sched.slice" "") w)
            | .ok n world => .goroutine { m' with world, rest := { m'.rest with slice := if n = 0 then none else some ((runnable m.gs m.world.os.mono).getD k 0, n) } } ((runnable m.gs m.world.os.mono).getD k 0)) := by
        intro m' hm
        split
        · exact trivial
        · rename_i h2
          have h2 := run_ok h2
          split
          · exact Nat.le_trans hm h2
          · split
            · exact trivial
            · rename_i h3
              have h3 := run_ok h3
              exact Nat.le_trans (Nat.le_trans hm h2) h3
      split
      · split
        · exact h1
        · split
          · exact h1
          · split <;> exact trivial
      · split
        · exact hp ⟨w1, m.gs, m.rest⟩ h1
        · split
          · exact trivial
          · rename_i h2
            have h2 := run_ok h2
            exact hp ⟨_, m.gs, m.rest⟩ (Nat.le_trans h1 h2)
          · rename_i h2
            have h2 := run_ok h2
            exact Nat.le_trans h1 h2
          · rename_i h2
            have h2 := run_ok h2
            refine hp _ ?_
            exact Nat.le_trans h1 h2
theorem drm_ask (p : Program) (m : Machine) : DrM m.world (ask p m) := by
  unfold ask
  split
  · split
    · exact trivial
    · rename_i w1 h1
      have h1 := run_ok h1
      have h2 := drs_look p m.gs m.rest w1
      split
      · rename_i m2 h3
        rw [h3] at h2
        exact (drm_askOn _ _).le (Nat.le_trans h1 h2)
      · exact h2.le h1
    · rename_i w1 _ h1
      have h1 := run_ok h1
      exact (drm_askOn _ { m with world := w1 }).le h1
  · exact drm_askOn _ _
theorem drm_move (p : Program) (m : Machine) : DrM m.world (move p m) := by
  unfold move
  split
  · split
    · exact Nat.le_refl _
    · exact trivial
  · split
    · split
      · exact Nat.le_refl _
      · exact drm_ask p { m with rest := { m.rest with slice := none } }
    · exact drm_ask _ _
theorem drs_step (p : Program) (m : Machine) : DrS m.world (step p m) := by
  unfold step stepT
  have h := drm_move p m
  split
  · rename_i h1
    rw [h1] at h
    exact (drs_runT _ _ _ _).le h
  · rename_i h1
    rw [h1] at h
    exact h
theorem drawn_runN (p : Program) (n : Nat) (m m' : Machine) (h : runN p n m = .next m') : m.world.drawn ≤ m'.world.drawn := by
  induction n generalizing m with
  | zero => cases h; exact Nat.le_refl _
  | succ n ih =>
    have hs := drs_step p m
    simp only [runN] at h
    split at h
    · rename_i h1
      rw [h1] at hs
      exact Nat.le_trans hs (ih _ h)
    · cases h' : step p m <;> simp_all
/-- The tape is never read backwards: what a call that ends draws is at or behind what it found. -/
theorem calls_drawn {P : Program} {f : FuncId} {args : Array Value} {w : World} {R : Ending → World → Prop} (h : Calls P f args w R) :
    Calls P f args w (fun e w' => R e w' ∧ (e ≠ .outgrown → w.drawn ≤ w'.drawn)) := by
  intro cs
  obtain ⟨e, w', fr, hR, hc, hf, hl⟩ := h cs
  refine ⟨e, w', fr, ⟨hR, fun he => ?_⟩, hc, hf, hl⟩
  cases e with
  | outgrown => exact absurd rfl he
  | returned v => obtain ⟨n, hn⟩ := hc; exact drawn_runN P n _ _ hn
  | panicked c => obtain ⟨n, hn⟩ := hc; exact drawn_runN P n _ _ hn
end Go.Proofs.YtcbgngkalplafaaGreatDoor
