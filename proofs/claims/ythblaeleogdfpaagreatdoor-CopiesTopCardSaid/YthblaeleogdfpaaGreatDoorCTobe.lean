/- No step of the model's machine draws less than was drawn: what a call gives that leaves all blocks as they were can be told to the block. No program in sight. -/
import Derived.Below
import Derived.Calls
import Derived.RunT
import Derived.Sort.Grow
import Derived.Deep.Draws
set_option linter.unusedVariables false
set_option linter.unusedSimpArgs false
namespace Go.Proofs.YthblaeleogdfpaaGreatDoor.Dr
open Go Go.RowKit
def rw_ {α : Type} : Result α → World
  | .ok _ w => w
  | .halt _ w => w
theorem ask_ge {α : Type} (a : Ask α) (w : World) : w.drawn ≤ (w.ask a).2.drawn := by
 induction a generalizing w with
 | done a => simp [World.ask]
 | ask what range k ih =>
  simp only [World.ask]
  split
  ·exact ih _ _
  ·exact Nat.le_trans (Nat.le_succ _) (ih _ { w with drawn := w.drawn + 1 })
theorem sys_ge (w : World) (c : Sys) : w.drawn ≤ (w.sys c).2.drawn := by
 have h := ask_ge (Kernel.perform c w.os) w
 unfold World.sys
 split
 ·exact Nat.le_refl _
 ·rename_i heq
  rw [heq] at h
  exact h
theorem viewStore_ge {p : Program} {w : World} {at_ : Addr} {u : TypeId} {k : Addr} {v : Value} {b : Bool} {r : World × List Addr} (h : w.viewStore p at_ u k v b = .ok r) : r.1.drawn = w.drawn := by
 unfold World.viewStore at h
 simp only [bind, Except.bind, pure, Except.pure] at h
 repeat' split at h
 all_goals first | (cases h; done) | (injection h with h; subst h; rfl) | skip
theorem farStore_ge {p : Program} {w : World} {a : Addr} {v : Value} {b : Bool} {r : World × List Addr} (h : w.farStore p a v b = .ok r) : r.1.drawn = w.drawn := by
 unfold World.farStore at h
 split at h
 ·split at h
  ·rename_i hq
   injection h with h
   subst h
   exact viewStore_ge hq
  ·cases h
 ·cases h
theorem run_ge {α : Type} (p : Program) (s : Sem α) (w : World) : w.drawn ≤ (rw_ (s.run p w)).drawn := by
 induction s generalizing w with
 | pure a => simp [Sem.run, rw_]
 | load m a k ih =>
  simp only [Sem.run]
  split
  ·exact ih _ _
  ·split
   ·exact ih _ _
   ·exact Nat.le_refl _
 | store m a v k ih =>
  have key : w.drawn ≤ (rw_ (match w.cell? a with
   | some _ => if w.frozen? a then Result.halt (.unsupported (.unsafePointer "a write to bytes that a string shares")) w else k.run p (w.setCell a v)
   | none => match w.farStore p a v (m == .atomic) with
    | .ok (w, _) => k.run p w
    | .error h => .halt h w)).drawn := by
   split
   ·split
    ·exact Nat.le_refl _
    ·exact ih (w.setCell a v)
   ·split
    ·rename_i hq
     have h1 := farStore_ge hq
     simp only at h1
     rw [← h1]
     exact ih _
    ·exact Nat.le_refl _
  cases v <;> first | exact key | exact Nat.le_refl _
 | new o k ih => simp only [Sem.run]; exact ih _ { w with heap := w.heap.push o }
 | shape r k ih => simp only [Sem.run]; exact ih _ _
 | freeze a n k ih =>
  simp only [Sem.run]
  refine Nat.le_trans ?_ (ih _)
  unfold World.freeze
  split <;> exact Nat.le_refl _
 | frozen a k ih => simp only [Sem.run]; exact ih _ _
 | getObj r k ih =>
  simp only [Sem.run]
  repeat' split
  all_goals first | exact Nat.le_refl _ | exact ih _ _
 | setObj r o k ih =>
  simp only [Sem.run]
  repeat' split
  all_goals first | exact Nat.le_refl _ | exact ih { w with heap := w.heap.setIfInBounds r o }
 | choose q k ih =>
  simp only [Sem.run]
  split
  ·exact ih _ _
  ·exact Nat.le_trans (Nat.le_succ _) (ih _ { w with drawn := w.drawn + 1 })
 | sys c k ih =>
  simp only [Sem.run]
  exact Nat.le_trans (sys_ge w c) (ih _ _)
 | program k ih => simp only [Sem.run]; exact ih _ _
 | mark m k ih => simp only [Sem.run]; exact ih _
 | halt h => simp [Sem.run, rw_]
theorem run_ok {α : Type} {p : Program} {s : Sem α} {w w' : World} {a : α} (h : s.run p w = .ok a w') : w.drawn ≤ w'.drawn := by
 have := run_ge p s w; rw [h] at this; exact this
theorem run_halt {α : Type} {p : Program} {s : Sem α} {w w' : World} {a : Halt} (h : s.run p w = .halt a w') : w.drawn ≤ w'.drawn := by
 have := run_ge p s w; rw [h] at this; exact this
theorem runT_ok {α : Type} {p : Program} {s : Sem α} {w w' : World} {a : α} {es es' : Array Event} (h : s.runT p w es = (.ok a w', es')) : w.drawn ≤ w'.drawn :=
 run_ok (by rw [← Sem.runT_fst p s w es, h])
theorem runT_halt {α : Type} {p : Program} {s : Sem α} {w w' : World} {a : Halt} {es es' : Array Event} (h : s.runT p w es = (.halt a w', es')) : w.drawn ≤ w'.drawn :=
 run_halt (by rw [← Sem.runT_fst p s w es, h])
def GGe (n : Nat) : GStep → Prop
  | .go _ w _ => n ≤ w.drawn
  | .comm _ _ _ _ w _ => n ≤ w.drawn
  | .spawn _ _ w _ => n ≤ w.drawn
  | .count _ w _ => n ≤ w.drawn
  | .timer _ _ w _ => n ≤ w.drawn
  | .alone _ _ w _ => n ≤ w.drawn
  | .newcoro _ _ _ w _ => n ≤ w.drawn
  | .coroswitch _ _ _ w _ => n ≤ w.drawn
  | .collect _ w _ => n ≤ w.drawn
  | .watch _ w _ => n ≤ w.drawn
  | .ended _ _ _ => True
theorem after_ge {n : Nat} {s : GStep} {es : Array Event} (h : GGe n s) : GGe n (s.after es) := by cases s <;> exact h
theorem endWith_ge (n : Nat) (w : World) (fd : Nat) (text : ByteArray) (o : Outcome) : GGe n (endWith w fd text o) := by
 unfold endWith
 simp only []
 repeat' first | trivial | split
theorem endThrow_ge {n : Nat} (fr : Frame) (m : String) {w : World} (h : n ≤ w.drawn) : GGe n (endThrow fr m w) := h
theorem dieOf_ge {n : Nat} (fr : Frame) (a : List ByteArray) (m : String) (b : Bool) {w : World} (h : n ≤ w.drawn) : GGe n (dieOf fr a m b w) := h
theorem endPrinting_ge {n : Nat} (p : Program) (fr : Frame) (v : Value) {w : World} (h : n ≤ w.drawn) : GGe n (endPrinting p fr v w) := by
 unfold endPrinting
 simp only []
 generalize (match v with | _ => _ : Option String) = o
 repeat' first | trivial | exact endThrow_ge _ _ h | split
theorem endFatal_ge {n : Nat} (p : Program) (fr : Frame) (callers : List Frame) (d : Option Dying) (m : String) {w : World} (h : n ≤ w.drawn) : GGe n (endFatal p fr callers d m w) := by
 unfold endFatal
 simp only []
 split
 ·rename_i hq
  exact dieOf_ge _ _ _ _ (Nat.le_trans h (run_ok hq))
 ·trivial
 ·trivial
theorem writeOn_ge {n : Nat} (p : Program) (fr : Frame) (d : Dying) (f : Fatal) {w : World} (h : n ≤ w.drawn) : GGe n (writeOn p fr d f w) := by
 unfold writeOn
 simp only []
 split
 ·trivial
 ·split
  ·rename_i hq
   exact Nat.le_trans h (runT_ok hq)
  ·rename_i hq
   exact Nat.le_trans h (runT_halt hq)
  ·trivial
  ·trivial
theorem die_ge {n : Nat} (p : Program) (fr : Frame) (d : Dying) {w : World} (h : n ≤ w.drawn) : GGe n (die p fr d w) := by
 unfold die
 split
 ·exact writeOn_ge p fr d _ h
 ·split
  ·split
   ·exact h
   ·exact endWith_ge _ _ _ _ _
  ·simp only []
   split
   ·exact h
   ·split
    ·rename_i hq
     exact Nat.le_trans h (run_ok hq)
    ·trivial
   ·generalize hq : Sem.runT p _ w #[] = r
    obtain ⟨r, es⟩ := r
    refine after_ge ?_
    simp only []
    split
    ·exact Nat.le_trans h (runT_ok hq)
    ·exact Nat.le_trans h (runT_ok hq)
    ·trivial
    ·exact endPrinting_ge _ _ _ (Nat.le_trans h (runT_halt hq))
    ·trivial
   ·trivial
theorem early_ge {n : Nat} (p : Program) (fr : Frame) (callers : List Frame) (d : Option Dying) (g : Nat) {w : World} (h : n ≤ w.drawn) : GGe n (early p fr callers d g w) := by
 have hN : ∀ w' : World, n ≤ w'.drawn → GGe n (match w'.heap[g]? with
  | some (.pending c elem) => GStep.go { frame := fr, callers, status := .running, dying := d } { w' with heap := w'.heap.setIfInBounds g (.cells c elem) }
  | _ => .ended (.stuck "early: the variable does not wait" (fr.pos p)) w') := fun w' h' => by
  split
  ·exact h'
  ·trivial
 unfold early
 simp only []
 repeat' first
  | trivial
  | exact hN _ h
  | exact h
  | (rename_i hq; exact hN _ (Nat.le_trans h (run_ok hq)))
  | (rename_i hq; exact Nat.le_trans h (run_ok hq))
  | split
theorem doReturn_ge {n : Nat} (p : Program) (main : Bool) (fr : Frame) (callers : List Frame) (d : Option Dying) (v : Value) {w : World} (h : n ≤ w.drawn) : GGe n (doReturn p main fr callers d v w) := by
 unfold doReturn
 (try simp only [])
 repeat' first | trivial | exact h | split
theorem ite_ge {n : Nat} {c : Prop} [Decidable c] {a b : GStep} (h1 : GGe n a) (h2 : GGe n b) : GGe n (if c then a else b) := by
 split
 ·exact h1
 ·exact h2
theorem callDeferred_ge {n : Nat} (p : Program) (fr : Frame) (callers : List Frame) (dy : Option Dying) (d : Deferred) {w : World} (h : n ≤ w.drawn) : GGe n (callDeferred p fr callers dy d w) := by
 unfold callDeferred
 refine ite_ge trivial ?_
 generalize hq : Sem.runT p _ w #[] = r
 obtain ⟨r, es⟩ := r
 refine after_ge ?_
 (try simp only [])
 cases r with
 | ok a w' =>
  have h' := Nat.le_trans h (runT_ok hq)
  clear hq
  cases a
  all_goals
   (try simp only [])
   repeat' first | trivial | exact h' | (rename_i hq; cases hq; done) | (rename_i hq; cases hq; first | trivial | exact h') | split
 | halt a w' =>
  have h' := Nat.le_trans h (runT_halt hq)
  clear hq
  cases a <;> first | trivial | exact h' | exact endFatal_ge _ _ _ _ _ h' | exact endThrow_ge _ _ h'
theorem unwind_ge {n : Nat} (p : Program) (main : Bool) (fr : Frame) (callers : List Frame) (dy : Option Dying) {w : World} (h : n ≤ w.drawn) : GGe n (unwind p main fr callers dy w) := by
 unfold unwind
 split
 ·generalize hq : Sem.runT p _ w #[] = r
  obtain ⟨r, es⟩ := r
  refine after_ge ?_
  (try simp only [])
  split
  ·exact Nat.le_trans h (runT_ok hq)
  ·trivial
 ·exact callDeferred_ge _ _ _ _ _ h
 ·split
  ·trivial
  ·split
   ·trivial
   ·split
    ·exact h
    ·split
     ·split
      ·exact h
      ·split
       ·rename_i hq
        exact Nat.le_trans h (run_ok hq)
       ·trivial
       ·trivial
     ·split
      ·exact endPrinting_ge _ _ _ h
      ·trivial
  ·split
   ·exact doReturn_ge _ _ _ _ _ _ h
   ·generalize hq : Sem.runT p _ w #[] = r
    obtain ⟨r, es⟩ := r
    refine after_ge ?_
    (try simp only [])
    split
    ·exact doReturn_ge _ _ _ _ _ _ (Nat.le_trans h (runT_ok hq))
    ·trivial
    ·trivial
theorem apply_ge {n : Nat} (p : Program) (b : Bool) (fr : Frame) (callers : List Frame) (dy : Option Dying) (s : Sem Next) {w : World} (h : n ≤ w.drawn) : GGe n (stepG.apply p b fr callers dy s w) := by
 unfold stepG.apply
 (try simp only [])
 generalize hq : (if b = true then s.runT p w #[] else (s.run p w, #[])) = r
 obtain ⟨r, es⟩ := r
 have hr : n ≤ (rw_ r).drawn := by
  have h1 : r = s.run p w := by
   have h2 := congrArg Prod.fst hq
   simp only at h2
   rw [← h2]
   split
   ·exact Sem.runT_fst p s w #[]
   ·rfl
  rw [h1]
  exact Nat.le_trans h (run_ge p s w)
 clear hq
 refine after_ge ?_
 (try simp only [])
 cases r with
 | ok a w' =>
  have h' : n ≤ w'.drawn := hr
  cases a
  all_goals
   (try simp only [])
   repeat' first | trivial | exact h' | exact endThrow_ge _ _ h' | split
 | halt a w' =>
  have h' : n ≤ w'.drawn := hr
  cases a
  all_goals
   (try simp only [])
   repeat' first | trivial | exact h' | exact endFatal_ge _ _ _ _ _ h' | exact endThrow_ge _ _ h' | exact early_ge _ _ _ _ _ h' | (rename_i hq; cases hq; done) | (rename_i hq; cases hq; first | trivial | exact h' | exact early_ge _ _ _ _ _ h') | split
theorem oper_ge {n : Nat} (p : Program) (b : Bool) (fr : Frame) (callers : List Frame) (dy : Option Dying) {w : World} (h : n ≤ w.drawn) : GGe n (stepG.oper p b fr callers dy w) := by
 unfold stepG.oper
 repeat' first | trivial | exact apply_ge _ _ _ _ _ _ h | split
theorem elim_ge {n : Nat} {α : Type} (o : Option α) {a : GStep} {f : α → GStep} (h1 : GGe n a) (h2 : ∀ x, GGe n (f x)) : GGe n (o.elim a f) := by
 cases o
 ·exact h1
 ·exact h2 _
theorem runT_ok1 {α : Type} {p : Program} {s : Sem α} {w w' : World} {a : α} {es : Array Event} (h : (s.runT p w es).1 = .ok a w') : w.drawn ≤ w'.drawn := run_ok (by rw [← Sem.runT_fst p s w es, h])
theorem runT_halt1 {α : Type} {p : Program} {s : Sem α} {w w' : World} {a : Halt} {es : Array Event} (h : (s.runT p w es).1 = .halt a w') : w.drawn ≤ w'.drawn := run_halt (by rw [← Sem.runT_fst p s w es, h])
theorem exec_ge {n : Nat} (p : Program) (main b : Bool) (fr : Frame) (callers : List Frame) (dy : Option Dying) {w : World} (h : n ≤ w.drawn) : GGe n (stepG.exec p main b fr callers dy w) := by
 have hL : ∀ j : Option Code, GGe n (match fr.roundOf with
   | none => if j matches none | some .ret then GStep.go { frame := { fr with mode := .returning }, callers, status := .running, dying := dy } w else .ended (.stuck "exit, goto: no such block or label" (fr.pos p)) w
   | some l =>
    let (r, es) := (Instr.endRound l j).runT p w #[]
    GStep.after (seen p fr.fn es) <| match r with
    | .ok v w => doReturn p main fr callers dy v w
    | .halt _ w => .ended (.stuck "range over a function: no such loop" (fr.pos p)) w) := fun j => by
  split
  ·exact ite_ge h trivial
  ·generalize hq : Sem.runT p _ w #[] = r
   obtain ⟨r, es⟩ := r
   refine after_ge ?_
   (try simp only [])
   split
   ·exact doReturn_ge _ _ _ _ _ _ (Nat.le_trans h (runT_ok hq))
   ·trivial
 unfold stepG.exec
 (try simp only [])
 repeat' first
  | trivial
  | exact h
  | exact hL _
  | refine elim_ge _ ?_ (fun _ => h)
  | exact elim_ge _ trivial (fun _ => apply_ge _ _ _ _ _ _ h)
  | exact apply_ge _ _ _ _ _ _ h
  | exact oper_ge _ _ _ _ _ h
  | exact after_ge trivial
  | (rename_i hq; exact Nat.le_trans h (run_ok hq))
  | (rename_i hq; refine after_ge ?_; exact doReturn_ge _ _ _ _ _ _ (Nat.le_trans h (runT_ok1 hq)))
  | (rename_i hq; refine after_ge ?_; exact apply_ge _ _ _ _ _ _ (Nat.le_trans h (runT_ok1 hq)))
  | (rename_i hq; exact after_ge (Nat.le_trans h (runT_ok1 hq)))
  | (rename_i hq; exact after_ge (Nat.le_trans h (runT_halt1 hq)))
  | split
 all_goals trace_state
theorem stepG_ge {n : Nat} (p : Program) (main : Bool) (g : Goroutine) (b : Bool) {w : World} (h : n ≤ w.drawn) : GGe n (stepG p main g w b) := by
 unfold stepG
 (try simp only [])
 split
 ·exact die_ge _ _ _ h
 ·exact exec_ge _ _ _ _ _ _ h
 ·exact unwind_ge _ _ _ _ _ h
theorem waitingAt_ge {rest : Rest} {cases : Array CommCase} {w w' : World} (h : waitingAt rest cases w = some w') : w'.drawn = w.drawn := by
 unfold waitingAt at h
 repeat' first
  | (simp at h; done)
  | (injection h with h; subst h; rfl)
  | split at h
theorem communicate_ge {n : Nat} (p : Program) (rest : Rest) (gs : Array Goroutine) (i : Nat) (g : Goroutine) (cases : Array CommCase) (blocking : Bool)
  (shape : CommShape) {w : World} (hn : n ≤ w.drawn) (m' : Machine) (h : (communicate p rest gs i g cases blocking shape w).1 = .next m') : n ≤ m'.world.drawn := by
 unfold communicate at h
 simp only [] at h
 repeat' first
  | (simp at h; done)
  | (simp only [Stepped.next.injEq] at h; subst h; exact hn)
  | (simp only [Stepped.next.injEq] at h; subst h; rename_i hq; exact Nat.le_trans hn (Nat.le_of_eq (waitingAt_ge hq).symm))
  | (simp only [Stepped.next.injEq] at h; subst h; have h1 := run_ok ‹Sem.run p _ w = Result.ok _ _›; exact Nat.le_trans hn h1)
  | (simp only [Stepped.next.injEq] at h; subst h; have h1 := run_ok ‹Sem.run p _ w = Result.ok _ _›; rename_i hq; exact Nat.le_trans hn (Nat.le_trans h1 (run_halt hq)))
  | (simp only [Stepped.next.injEq] at h; subst h; have h1 := run_ok ‹Sem.run p _ w = Result.ok _ _›; rename_i hq; exact Nat.le_trans hn (Nat.le_trans h1 (run_ok hq)))
  | (simp only [Stepped.next.injEq] at h; subst h; have h1 := run_ok ‹Sem.run p _ w = Result.ok _ _›; have h2 := run_ok ‹Sem.run p (choose _) _ = Result.ok _ _›; exact Nat.le_trans hn (Nat.le_trans h1 h2))
  | split at h
 all_goals trace_state
theorem look_ge {n : Nat} (p : Program) (gs : Array Goroutine) (rest : Rest) {w : World} (hn : n ≤ w.drawn) (m' : Machine) (h : look p gs rest w = .next m') : n ≤ m'.world.drawn := by
 unfold look at h
 simp only [] at h
 repeat' first
  | (simp at h; done)
  | (simp only [Stepped.next.injEq] at h; subst h; exact hn)
  | (simp only [Stepped.next.injEq] at h; subst h; rename_i hq; exact Nat.le_trans hn (Nat.le_of_eq (waitingAt_ge hq).symm))
  | (simp only [Stepped.next.injEq] at h; subst h; have h1 := run_ok ‹Sem.run p _ w = Result.ok _ _›; exact Nat.le_trans hn h1)
  | (simp only [Stepped.next.injEq] at h; subst h; have h1 := run_ok ‹Sem.run p _ w = Result.ok _ _›; rename_i hq; exact Nat.le_trans hn (Nat.le_trans h1 (run_halt hq)))
  | (simp only [Stepped.next.injEq] at h; subst h; have h1 := run_ok ‹Sem.run p _ w = Result.ok _ _›; rename_i hq; exact Nat.le_trans hn (Nat.le_trans h1 (run_ok hq)))
  | split at h
 all_goals trace_state
theorem serve_ge (p : Program) (m m' : Machine) (k : Nat) (h : serve p m k = .next m') : m.world.drawn ≤ m'.world.drawn := by
 unfold serve at h
 simp only [] at h
 repeat' first
  | (simp at h; done)
  | (simp only [Stepped.next.injEq] at h; subst h; exact Nat.le_refl _)
  | split at h
 all_goals trace_state
theorem timerOp_ge {m m' : Machine} {op : TimerOp} {v : Value} (h : timerOp m op = .ok (v, m')) : m'.world.drawn = m.world.drawn := by
 have hr : ∀ (m : Machine) k t a b, (retime m k t a b).2.world.drawn = m.world.drawn := fun m k t a b => by
  unfold retime
  simp only []
  split
  ·unfold drain
   split <;> rfl
  ·rfl
 have hnm : ∀ (m0 : Machine) (var : Addr) (f : Nat → Timer → Value × Machine) (v : Value) (m' : Machine), (∀ k t, (f k t).2.world.drawn = m.world.drawn) → timerOp.named m0 var f = .ok (v, m') → m'.world.drawn = m.world.drawn := fun m0 var f v m' hf h => by
  unfold timerOp.named at h
  split at h
  ·injection h with h
   rw [← hf, h]
  ·cases h
 have hop : ∀ (var : Addr) (m2 : Machine), timerOp.opened m var = some m2 → m2.world.drawn = m.world.drawn := fun var m2 h => by
  unfold timerOp.opened at h
  repeat' first
   | (simp at h; done)
   | (injection h with h; subst h; rfl)
   | split at h
 unfold timerOp at h
 repeat' first
  | exact hnm _ _ _ _ _ (fun k t => hr _ _ _ _ _) h
  | (rename_i hq; exact hnm _ _ _ _ _ (fun k t => (hr _ _ _ _ _).trans (hop _ _ hq)) h)
  | (simp at h; done)
  | (simp only [Except.ok.injEq, Prod.mk.injEq] at h; obtain ⟨-, rfl⟩ := h; rfl)
  | split at h
theorem gruntT_ge (p : Program) (m m' : Machine) (i : Nat) (b : Bool) (h : (runT p m i b).1 = .next m') : m.world.drawn ≤ m'.world.drawn := by
 simp only [runT] at h
 revert h
 generalize m.gs.swapAt! _ _ = gg
 have hs := stepG_ge (n := m.world.drawn) p (i == 0) gg.1 b (Nat.le_refl _)
 revert hs
 generalize stepG p _ gg.1 m.world b = s
 intro hs h
 cases s <;> simp only [] at h
 all_goals (try have hw : m.world.drawn ≤ _ := hs)
 all_goals first
  | (simp at h; done)
  | exact communicate_ge _ _ _ _ _ _ _ _ hs _ h
  | exact look_ge _ _ _ hs _ h
  | (simp only [Stepped.next.injEq] at h; subst h; exact hs)
  | (repeat' first
    | (simp at h; done)
    | (simp only [Stepped.next.injEq] at h; subst h; exact hs)
    | (simp only [Stepped.next.injEq] at h; subst h; rename_i hq; exact Nat.le_trans hs (Nat.le_of_eq (timerOp_ge hq).symm))
    | (simp only [Stepped.next.injEq] at h; subst h; rename_i hq; simp only [endThrow, dieOf, GStep.go.injEq] at hq; obtain ⟨-, rfl, -⟩ := hq; exact hs)
    | split at h)
theorem askOn_ge (p : Program) (m m' : Machine) (i : Nat) (h : askOn p m = .goroutine m' i) : m.world.drawn ≤ m'.world.drawn := by
 unfold askOn at h
 simp only [] at h
 repeat' first
  | (simp at h; done)
  | (simp only [Move.goroutine.injEq] at h; obtain ⟨rfl, -⟩ := h; have h1 := run_ok ‹Sem.run p _ m.world = Result.ok _ _›; (try have h2 := run_ok ‹Sem.run p (choose (.sched _)) _ = Result.ok _ _›); (try have h3 := run_ok ‹Sem.run p (choose (.extern "sched.slice" _)) _ = Result.ok _ _›); (try have h4 := run_ok ‹Sem.run p (choose (.extern "clock.wait" _)) _ = Result.ok _ _›); simp only [Machine.advanceTo] at *; omega)
  | split at h
theorem askOnM_ge (p : Program) (m m' : Machine) (ops : Array MemOp) (h : askOn p m = .machine (.next m') ops) : m.world.drawn ≤ m'.world.drawn := by
 unfold askOn at h
 simp only [] at h
 repeat' first
  | (simp at h; done)
  | (simp only [Move.machine.injEq] at h; have h1 := run_ok ‹Sem.run p _ m.world = Result.ok _ _›; have h2 := serve_ge _ _ _ _ h.1; exact Nat.le_trans h1 h2)
  | (simp only [Move.machine.injEq, Stepped.next.injEq] at h; obtain ⟨rfl, _⟩ := h; have h1 := run_ok ‹Sem.run p _ m.world = Result.ok _ _›; (try have h4 := run_ok ‹Sem.run p (choose (.extern "clock.wait" _)) _ = Result.ok _ _›); simp only [Machine.advanceTo] at *; omega)
  | split at h
theorem ask_ge' (p : Program) (m : Machine) : (∃ m₂, m.world.drawn ≤ m₂.world.drawn ∧ ask p m = askOn p m₂) ∨ (∃ o w, ask p m = .machine (.ended o w) #[]) := by
 unfold ask
 by_cases hw : m.rest.watch = true
 ·rw [if_pos hw]
  cases hc : (choose (.extern "collector.look" 2)).run p m.world with
  | halt h w => exact .inr ⟨_, _, rfl⟩
  | ok k world =>
   have h1 := run_ok hc
   rcases k with _ | _ | k
   ·exact .inl ⟨{ m with world }, h1, rfl⟩
   ·show (∃ m₂, m.world.drawn ≤ m₂.world.drawn ∧ (match look p m.gs m.rest world with | .next m => askOn p m | e => Move.machine e) = askOn p m₂) ∨
     (∃ o w, (match look p m.gs m.rest world with | .next m => askOn p m | e => Move.machine e) = .machine (.ended o w) #[])
    cases hl : look p m.gs m.rest world with
    | next m₂ => exact .inl ⟨m₂, look_ge _ _ _ h1 _ hl, rfl⟩
    | ended o w => exact .inr ⟨o, w, rfl⟩
   ·exact .inl ⟨{ m with world }, h1, rfl⟩
 ·simp only [hw, Bool.false_eq_true, if_false]
  exact .inl ⟨m, Nat.le_refl _, rfl⟩
theorem moveG_ge (p : Program) (m m' : Machine) (i : Nat) (h : move p m = .goroutine m' i) : m.world.drawn ≤ m'.world.drawn := by
 have key : ∀ m0 : Machine, m0.world = m.world → ask p m0 = .goroutine m' i → m.world.drawn ≤ m'.world.drawn := fun m0 h0 h => by
  rw [← h0]
  rcases ask_ge' p m0 with ⟨m₂, hs, he⟩ | ⟨o, w, he⟩
  ·rw [he] at h
   exact Nat.le_trans hs (askOn_ge _ _ _ _ h)
  ·rw [he] at h
   cases h
 unfold move at h
 repeat' first
  | (simp at h; done)
  | (refine key _ ?_ h; rfl)
  | (simp only [Move.goroutine.injEq] at h; obtain ⟨rfl, -⟩ := h; exact Nat.le_refl _)
  | split at h
theorem moveM_ge (p : Program) (m m' : Machine) (ops : Array MemOp) (h : move p m = .machine (.next m') ops) : m.world.drawn ≤ m'.world.drawn := by
 have key : ∀ m0 : Machine, m0.world = m.world → ask p m0 = .machine (.next m') ops → m.world.drawn ≤ m'.world.drawn := fun m0 h0 h => by
  rw [← h0]
  rcases ask_ge' p m0 with ⟨m₂, hs, he⟩ | ⟨o, w, he⟩
  ·rw [he] at h
   exact Nat.le_trans hs (askOnM_ge _ _ _ _ h)
  ·rw [he] at h
   cases h
 unfold move at h
 repeat' first
  | (simp at h; done)
  | (refine key _ ?_ h; rfl)
  | split at h
theorem step_ge (p : Program) (m m' : Machine) (h : step p m = .next m') : m.world.drawn ≤ m'.world.drawn := by
 unfold step stepT at h
 cases hm : move p m with
 | goroutine m₁ i =>
  rw [hm] at h
  exact Nat.le_trans (moveG_ge _ _ _ _ hm) (gruntT_ge _ _ _ _ _ h)
 | machine s ops =>
  rw [hm] at h
  simp only at h
  subst h
  exact moveM_ge _ _ _ _ hm
theorem steps_ge {p : Program} {m m' : Machine} (h : Steps p m m') : m.world.drawn ≤ m'.world.drawn := by
 obtain ⟨n, hn⟩ := h
 induction n generalizing m with
 | zero =>
  simp only [runN, Stepped.next.injEq] at hn
  subst hn
  exact Nat.le_refl _
 | succ n ih =>
  simp only [runN] at hn
  split at hn
  ·rename_i hs
   exact Nat.le_trans (step_ge _ _ _ hs) (ih hn)
  ·rename_i hne
   exact absurd hn (hne _)
theorem calls_drawn {P : Program} {f : FuncId} {args : Array Value} {w : World} {R : Ending → World → Prop} (h : Calls P f args w R) (hr : ∀ e w', R e w' → e ≠ .outgrown) :
  Calls P f args w (fun e w' => R e w' ∧ w.drawn ≤ w'.drawn) := by
 intro cs
 obtain ⟨e, w', fr, hR, hC, h1, h2⟩ := h cs
 refine ⟨e, w', fr, ⟨hR, ?_⟩, hC, h1, h2⟩
 have hs : Steps P (lone (Frame.enter P f args .normal) cs w) (lone fr cs w') := by
  cases e with
  | returned v => exact hC
  | panicked c => exact hC
  | outgrown => exact absurd rfl (hr _ _ hR)
 exact steps_ge hs
theorem below_grow {w w' : World} (h : Below w.heap.size w w') (hd : w.drawn ≤ w'.drawn) : ∃ q os', w' = Go.Sort.grow (w.drewN q) os' := by
 refine ⟨w'.drawn - w.drawn, w'.heap.extract w.heap.size w'.heap.size, ?_⟩
 obtain ⟨hp, tp, dr, os, ou⟩ := w
 obtain ⟨hp', tp', dr', os', ou'⟩ := w'
 obtain ⟨h1, h2, h3, h4, h5⟩ := h
 simp only at h1 h2 h3 h4 h5 hd
 subst h1 h2 h3
 unfold Go.Sort.grow World.drewN
 simp only [World.mk.injEq, and_true, true_and]
 refine ⟨?_, by omega⟩
 apply Array.ext_getElem?
 intro i
 by_cases hi : i < hp.size
 ·rw [h5 i hi, Array.getElem?_append_left hi]
 ·rw [Array.getElem?_append_right (by omega), Array.getElem?_extract]
  by_cases hj : i < hp'.size
  ·rw [if_pos (by omega)]
   congr 1
   omega
  ·rw [if_neg (by omega), Array.getElem?_eq_none (by omega)]
theorem calls_grows {P : Program} {f : FuncId} {args : Array Value} {w : World} {v : Value} (h : Calls P f args w (fun e w' => e = .returned v ∧ Below w.heap.size w w')) :
  Calls P f args w (fun e w' => e = .returned v ∧ ∃ q os', w' = Go.Sort.grow (w.drewN q) os') :=
 (calls_drawn h (fun e w' h1 => by rw [h1.1]; exact fun h => by cases h)).mono fun e w' h1 => ⟨h1.1.1, below_grow h1.1.2 h1.2⟩
end Go.Proofs.YthblaeleogdfpaaGreatDoor.Dr
