/- (T holds throughout, S till operation st.) A region that draws its order: loads are taken first, where the only writers of their cells are ops that wait for all of the loads. The kit's law (OrdersHeld) asks the cells anew behind every operation; here only till operation st has come up. -/
import Derived.Deep.RegionHeld3
import Derived.Test.YthblaeleogdfpaaGreatDoorCPaan
set_option linter.unusedVariables false
set_option linter.unusedSimpArgs false
namespace Go.Proofs.YthblaeleogdfpaaGreatDoor
open Go Go.RowKit
section
variable {P : Program} {ops : Array Oper} {Q : Exit → Act → World → Prop} {md : Region.Mode} {T S : World → Prop} {st : Nat}
def wpAnyB (P : Program) (md : Region.Mode) (ops : Array Oper) (Q : Exit → Act → World → Prop) (T S : World → Prop) (st : Nat) : Nat → Array Bool → Act → World → Prop
  | 0, listed, a, w => Region.ready md ops listed = [] ∧ Q .normal a w
  | fuel + 1, listed, a, w =>
    (Region.ready md ops listed = [] → Q .normal a w) ∧
    ∀ i ∈ Region.ready md ops listed, wpOp P ops Q i (fun a' w' => (((listed.setIfInBounds i true).getD st true = false → S w') ∧ T w') ∧ wpAnyB P md ops Q T S st fuel (listed.setIfInBounds i true) a' w') a w
theorem wpAny_of_before : ∀ (fuel : Nat) (listed : Array Bool) (a : Act) (w : World), wpAnyB P md ops Q T S st fuel listed a w → wpAny P md ops Q fuel listed a w
  | 0, _, _, _, h => h
  | fuel + 1, _, _, _, h => ⟨h.1, fun i hi => wpOp_mono (fun a' w' h' => wpAny_of_before fuel _ a' w' h'.2) (h.2 i hi)⟩
theorem wpAnyB_first {i : Nat} {oi : Oper} {v : Value} (hi : ops[i]? = some oi) (hsel : ∀ (j : Nat) (o : Oper) cs b, ops[j]? = some o → o.op ≠ .select cs b)
  (hQ : ∀ c a w, Q (.panic c) (a.put oi.dst v) w → Q (.panic c) a w) (path : List Nat) (hmem : st ∈ path) (hpi : i ∉ path)
  (hpath : ∀ c ∈ path, ∀ o, ops[c]? = some o → ∃ e ∈ o.after, Region.binds md e = true ∧ (e.on = i ∨ e.on ∈ path)) :
  ∀ (fuel : Nat) (listed : Array Bool) (a : Act) (w : World),
   (∀ j oj, ops[j]? = some oj → j ≠ i → listed.getD j true = false → (∀ e ∈ oj.after, Region.binds md e = true → e.on ≠ i) → oi.apart ops oj = true) →
   i ∈ Region.ready md ops listed → YieldsIf P ops (fun w => S w ∧ T w) oi v a → S w → T w → (∀ c ∈ path, listed.getD c true = false) →
   wpAnyB P md ops Q T S st fuel (listed.setIfInBounds i true) (a.put oi.dst v) w → wpAnyB P md ops Q T S st (fuel + 1) listed a w := by
 intro fuel
 induction fuel with
 | zero =>
  intro listed a w _ hr hy hS hTw hu H
  refine ⟨fun h => (by rw [h] at hr; cases hr), fun j hj => ?_⟩
  by_cases hji : j = i
  ·subst hji; exact hy.wpOp hi ⟨hS, hTw⟩ ⟨⟨fun _ => hS, hTw⟩, H⟩
  ·have := ready_mono hj hji
   rw [H.1] at this
   cases this
 | succ fuel ih =>
  intro listed a w hfree hr hy hS hTw hu H
  refine ⟨fun h => (by rw [h] at hr; cases hr), fun j hj => ?_⟩
  by_cases hji : j = i
  ·subst hji; exact hy.wpOp hi ⟨hS, hTw⟩ ⟨⟨fun _ => hS, hTw⟩, H⟩
  ·have h1 := H.2 j (ready_mono hj hji)
   obtain ⟨hjun, oj, hoj, hall⟩ := mem_ready.1 hj
   have hnot : ∀ e ∈ oj.after, Region.binds md e = true → e.on ≠ i := fun e he hb heq => by
    have h1 := hall e he hb
    have h0 := (mem_ready.1 hr).1
    rw [heq] at h1
    rcases Nat.lt_or_ge i listed.size with h' | h'
    ·simp [h'] at h0 h1; rw [h0] at h1; cases h1
    ·simp [Array.getElem?_eq_none h'] at h1
   have hjp : j ∉ path := fun hm => by
    obtain ⟨e, he, hb, h | h⟩ := hpath j hm oj hoj
    ·exact hnot e he hb h
    ·have h1 := hall e he hb
     have h0 := hu _ h
     rcases Nat.lt_or_ge e.on listed.size with h' | h'
     ·simp [h'] at h0 h1; rw [h0] at h1; cases h1
     ·simp [Array.getElem?_eq_none h'] at h1
   have h2 := wpOp_putIf hoj (hfree j oj hoj hji hjun hnot) (fun cs b => hsel i oi cs b hi) (fun cs b => hsel j oj cs b hoj) hQ hy h1
   have hfree' : ∀ k ok, ops[k]? = some ok → k ≠ i → (listed.setIfInBounds j true).getD k true = false →
     (∀ e ∈ ok.after, Region.binds md e = true → e.on ≠ i) → oi.apart ops ok = true := fun k ok hk hki hun hno => by
    refine hfree k ok hk hki ?_ hno
    by_cases hjk : j = k
    ·subst hjk; exact hjun
    ·rw [getD_set_ne true hjk] at hun; exact hun
   have hu1 : ∀ c ∈ path, (listed.setIfInBounds j true).getD c true = false := fun c hc => by rw [getD_set_ne true (show j ≠ c from fun e => hjp (by rw [e]; exact hc))]; exact hu c hc
   have hu2 : ((listed.setIfInBounds i true).setIfInBounds j true).getD st true = false := by rw [getD_set_ne true (show j ≠ st from fun e => hjp (by rw [e]; exact hmem)), getD_set_ne true (show i ≠ st from fun e => hpi (by rw [e]; exact hmem))]; exact hu st hmem
   refine wpOp_mono (fun a' w' h3 => ⟨⟨fun _ => h3.2.1.1 hu2, h3.2.1.2⟩, ih (listed.setIfInBounds j true) a' w' hfree' (ready_mono hr (Ne.symm hji)) h3.1 (h3.2.1.1 hu2) h3.2.1.2 hu1 ?_⟩) h2
   rw [Array.setIfInBounds_comm _ _ hji]
   exact h3.2.2
theorem wpAnyB_firstT {i : Nat} {oi : Oper} {v : Value} (hi : ops[i]? = some oi) (hsel : ∀ (j : Nat) (o : Oper) cs b, ops[j]? = some o → o.op ≠ .select cs b)
    (hQ : ∀ c a w, Q (.panic c) (a.put oi.dst v) w → Q (.panic c) a w) (his : i ≠ st) :
    ∀ (fuel : Nat) (listed : Array Bool) (a : Act) (w : World),
      (∀ j oj, ops[j]? = some oj → j ≠ i → listed.getD j true = false → (∀ e ∈ oj.after, Region.binds md e = true → e.on ≠ i) → oi.apart ops oj = true) →
      i ∈ Region.ready md ops listed → YieldsIf P ops T oi v a → (listed.getD st true = false → S w) → T w →
      wpAnyB P md ops Q T S st fuel (listed.setIfInBounds i true) (a.put oi.dst v) w → wpAnyB P md ops Q T S st (fuel + 1) listed a w := by
  intro fuel
  induction fuel with
  | zero =>
    intro listed a w _ hr hy hS hTw H
    refine ⟨fun h => (by rw [h] at hr; cases hr), fun j hj => ?_⟩
    by_cases hji : j = i
    · subst hji; exact hy.wpOp hi hTw ⟨⟨fun h => hS (by rw [getD_set_ne true his] at h; exact h), hTw⟩, H⟩
    · have := ready_mono hj hji
      rw [H.1] at this
      cases this
  | succ fuel ih =>
    intro listed a w hfree hr hy hS hTw H
    refine ⟨fun h => (by rw [h] at hr; cases hr), fun j hj => ?_⟩
    by_cases hji : j = i
    · subst hji; exact hy.wpOp hi hTw ⟨⟨fun h => hS (by rw [getD_set_ne true his] at h; exact h), hTw⟩, H⟩
    · have h1 := H.2 j (ready_mono hj hji)
      obtain ⟨hjun, oj, hoj, hall⟩ := mem_ready.1 hj
      have hnot : ∀ e ∈ oj.after, Region.binds md e = true → e.on ≠ i := fun e he hb heq => by
        have h1 := hall e he hb
        have h0 := (mem_ready.1 hr).1
        rw [heq] at h1
        rcases Nat.lt_or_ge i listed.size with h' | h'
        · simp [h'] at h0 h1; rw [h0] at h1; cases h1
        · simp [Array.getElem?_eq_none h'] at h1
      have h2 := wpOp_putIf hoj (hfree j oj hoj hji hjun hnot) (fun cs b => hsel i oi cs b hi) (fun cs b => hsel j oj cs b hoj) hQ hy h1
      have hfree' : ∀ k ok, ops[k]? = some ok → k ≠ i → (listed.setIfInBounds j true).getD k true = false →
          (∀ e ∈ ok.after, Region.binds md e = true → e.on ≠ i) → oi.apart ops ok = true := fun k ok hk hki hun hno => by
        refine hfree k ok hk hki ?_ hno
        by_cases hjk : j = k
        · subst hjk; exact hjun
        · rw [getD_set_ne true hjk] at hun; exact hun
      have hback : ∀ w' : World, (((listed.setIfInBounds i true).setIfInBounds j true).getD st true = false → S w') → (listed.setIfInBounds j true).getD st true = false → S w' := fun w' h h' => h (by
        rw [Array.setIfInBounds_comm _ _ (Ne.symm hji), getD_set_ne true his]
        exact h')
      refine wpOp_mono (fun a' w' h3 => ⟨⟨hback w' h3.2.1.1, h3.2.1.2⟩, ih (listed.setIfInBounds j true) a' w' hfree' (ready_mono hr (Ne.symm hji)) h3.1 (hback w' h3.2.1.1) h3.2.1.2 ?_⟩) h2
      rw [Array.setIfInBounds_comm _ _ hji]
      exact h3.2.2
def waitsFor (md : Region.Mode) (ops : Array Oper) (st i : Nat) (listed : Array Bool) (path : List Nat) : Bool :=
  path.contains st && !path.contains i && path.all fun c => listed.getD c true == false && match ops[c]? with
    | none => true
    | some o => o.after.any fun e => Region.binds md e && (e.on == i || path.contains e.on)
theorem waitsFor_spec {i : Nat} {listed : Array Bool} {path : List Nat} (h : waitsFor md ops st i listed path = true) :
    st ∈ path ∧ i ∉ path ∧ (∀ c ∈ path, ∀ o, ops[c]? = some o → ∃ e ∈ o.after, Region.binds md e = true ∧ (e.on = i ∨ e.on ∈ path)) ∧ ∀ c ∈ path, listed.getD c true = false := by
  unfold waitsFor at h
  rw [Bool.and_eq_true, Bool.and_eq_true, List.all_eq_true] at h
  obtain ⟨⟨h1, h2⟩, h3⟩ := h
  refine ⟨by simpa using h1, by simpa using h2, fun c hc o ho => ?_, fun c hc => ?_⟩
  · have h4 := h3 c hc
    rw [ho, Bool.and_eq_true] at h4
    obtain ⟨k, hk, hp⟩ := Array.any_eq_true.1 h4.2
    rw [Bool.and_eq_true] at hp
    exact ⟨_, Array.getElem_mem hk, hp.1, by simpa using hp.2⟩
  · have h4 := h3 c hc
    rw [Bool.and_eq_true] at h4
    simpa using h4.1
theorem wpAnyB_take {i : Nat} {oi : Oper} {v : Value} {fuel : Nat} {listed : Array Bool} {a : Act} {w : World} (hi : ops[i]? = some oi)
    (hs : Region.noSelect ops = true) (hf : Region.free md ops listed i = true) (hr : (Region.ready md ops listed).contains i = true)
    (path : List Nat) (hst : waitsFor md ops st i listed path = true)
    (hQ : ∀ c a w, Q (.panic c) (a.put oi.dst v) w → Q (.panic c) a w) (hy : YieldsIf P ops (fun w => S w ∧ T w) oi v a) (hS : S w) (hTw : T w)
    (h : wpAnyB P md ops Q T S st fuel (listed.setIfInBounds i true) (a.put oi.dst v) w) : wpAnyB P md ops Q T S st (fuel + 1) listed a w := by
  obtain ⟨h1, h2, h3, h4⟩ := waitsFor_spec hst
  exact wpAnyB_first hi (Region.noSelect_spec hs) hQ path h1 h2 h3 fuel listed a w (Region.free_spec hi hf) (by simpa using hr) hy hS hTw h4 h
theorem wpAnyB_takeT {i : Nat} {oi : Oper} {v : Value} {fuel : Nat} {listed : Array Bool} {a : Act} {w : World} (hi : ops[i]? = some oi)
    (hs : Region.noSelect ops = true) (hf : Region.free md ops listed i = true) (hr : (Region.ready md ops listed).contains i = true)
    (hst : decide (i ≠ st) = true)
    (hQ : ∀ c a w, Q (.panic c) (a.put oi.dst v) w → Q (.panic c) a w) (hy : YieldsIf P ops T oi v a) (hS : listed.getD st true = false → S w) (hTw : T w)
    (h : wpAnyB P md ops Q T S st fuel (listed.setIfInBounds i true) (a.put oi.dst v) w) : wpAnyB P md ops Q T S st (fuel + 1) listed a w :=
  wpAnyB_firstT hi (Region.noSelect_spec hs) hQ (by simpa using hst) fuel listed a w (Region.free_spec hi hf) (by simpa using hr) hy hS hTw h
def AllReadyB (P : Program) (md : Region.Mode) (ops : Array Oper) (Q : Exit → Act → World → Prop) (T S : World → Prop) (st : Nat) (fuel : Nat) (listed : Array Bool) (a : Act) (w : World) (rs : List Nat) : Prop :=
  ∀ i ∈ rs, wpOp P ops Q i (fun a' w' => (((listed.setIfInBounds i true).getD st true = false → S w') ∧ T w') ∧ wpAnyB P md ops Q T S st fuel (listed.setIfInBounds i true) a' w') a w
theorem AllReadyB.nil {fuel : Nat} {listed : Array Bool} {a : Act} {w : World} : AllReadyB P md ops Q T S st fuel listed a w [] := fun _ h => by cases h
theorem AllReadyB.cons {fuel : Nat} {listed : Array Bool} {a : Act} {w : World} {i : Nat} {o : Oper} {rs : List Nat} (ho : ops[i]? = some o)
    (h : ∀ K' : Act → World → Prop, Shut (∀ a w, ((listed.setIfInBounds i true).getD st true = false → S w) → T w → wpAnyB P md ops Q T S st fuel (listed.setIfInBounds i true) a w → K' a w) → if Region.wanted o (yielded ops a.tmps) = true then Oper.wp P o a w K' Q else K' (a.put o.dst undef) w)
    (hs : AllReadyB P md ops Q T S st fuel listed a w rs) : AllReadyB P md ops Q T S st fuel listed a w (i :: rs) := fun j hj => by
  rcases List.mem_cons.1 hj with rfl | hj
  · exact wpOp_step ho (fun K' hK => h K' (fun a w hS hTw hW => hK a w ⟨⟨hS, hTw⟩, hW⟩))
  · exact hs j hj
theorem wpAnyB_ready {rs : List Nat} {fuel : Nat} {listed : Array Bool} {a : Act} {w : World} (hr : Region.ready md ops listed = rs) (hne : rs ≠ [])
    (h : AllReadyB P md ops Q T S st fuel listed a w rs) : wpAnyB P md ops Q T S st (fuel + 1) listed a w := ⟨fun h0 => absurd (hr ▸ h0) hne, hr ▸ h⟩
theorem wpAnyB_done {listed : Array Bool} {a : Act} {w : World} (hr : Region.ready md ops listed = []) (h : Q .normal a w) :
    ∀ fuel, wpAnyB P md ops Q T S st fuel listed a w
  | 0 => ⟨hr, h⟩
  | _ + 1 => ⟨fun _ => h, by rw [hr]; simp⟩
theorem wp_region_before {id : Nat} {a : Act} {w : World} (hm : P.follows .mixedOrders = true)
    (h : wpAnyB P .any ops Q T S st ops.size (Array.replicate ops.size false) a w.drew) : (Code.region id ops true).wp P Q a w :=
  wp_region_any hm (wpAny_of_before _ _ _ _ h)
end
end Go.Proofs.YthblaeleogdfpaaGreatDoor
