/- What every walk of this family uses: the words in which memory is described, small facts. No program in sight. (T holds throughout, S till operation st.) A region that draws its order: loads are taken first, where the only writers of their cells are ops that wait for all of the loads. The kit's law (OrdersHeld) asks the cells anew behind every operation; here only till operation st has come up. -/
import Derived.WalkKit
import Derived.WalkSpells
import Derived.WalkLawsBesides
import Derived.BigRegion
import Derived.BigQuiet
import Derived.Deep.QuietTactic
import Derived.Deep.RegionHeld3
import Derived.Deep.LoopGhost
import Derived.Handy
import Derived.Test.YtfmlpaplnkohpaaGreatDoorLnRtaq
set_option linter.unusedVariables false
set_option linter.unusedSimpArgs false
namespace Go.Proofs.YtfmlpaplnkohpaaGreatDoor.Fr
open Go.RowKit

theorem hid {p : Prop} (h : p) : Hid p := h

/-- 'v' is a slice of uint32 that reads as 'xs' in 'w'. -/
def Rd32 (w : World) (v : Value) (xs : List Nat) : Prop :=
  ∃ a c, v = .slice a xs.length c ∧ xs.length ≤ c ∧ c ≤ maxLen ∧ Digs xs ∧
    (0 < xs.length → ∃ b o, a = some ⟨b, o, none⟩ ∧ b < w.heap.size ∧ ∀ i, i < xs.length → w.cell? ⟨b, o + i, none⟩ = some (.int .u32 ((xs.getD i 0 : Nat) : Int)))

theorem Rd32.kept {w w' : World} {v : Value} {xs : List Nat} (h : Rd32 w v xs) (hb : Below w.heap.size w w') : Rd32 w' v xs := by
  obtain ⟨a, c, e, h1, h2, h3, h4⟩ := h
  refine ⟨a, c, e, h1, h2, h3, fun hp => ?_⟩
  obtain ⟨b, o, e1, h5, h6⟩ := h4 hp
  exact ⟨b, o, e1, Nat.lt_of_lt_of_le h5 hb.size, fun i hi => (hb.cell (p := ⟨b, o + i, none⟩) h5).trans (h6 i hi)⟩
theorem Rd32.nil (w : World) : Rd32 w (.slice none 0 0) [] := ⟨none, 0, rfl, Nat.le_refl _, by simp [maxLen], Digs.nil, fun h => by simp at h⟩

/-- The slice 'v' has no element in block 'R'. -/
def Off (R : Nat) (v : Value) : Prop := ∀ a n c, v = .slice (some a) n c → 0 < n → a.block ≠ R
theorem Rd32.off {w : World} {v : Value} {xs : List Nat} (h : Rd32 w v xs) {R : Nat} (hR : w.heap.size ≤ R) : Off R v := by
  obtain ⟨a, c, rfl, h1, h2, h3, h4⟩ := h
  intro a' n' c' e hn
  obtain ⟨rfl, rfl, rfl⟩ := Value.slice.inj e
  obtain ⟨b, o, e1, h5, h6⟩ := h4 hn
  cases e1
  intro e2
  simp only at e2
  omega
theorem Off.of_lt {R : Nat} {b o n c : Nat} (h : R < b) : Off R (.slice (some ⟨b, o, none⟩) n c) := by
  intro a n' c' e _
  obtain ⟨e1, _⟩ := Value.slice.inj e
  cases e1
  simp only; omega
theorem Off.nil {R n c : Nat} : Off R (.slice none n c) := by
  intro a n' c' e _
  obtain ⟨e1, _⟩ := Value.slice.inj e
  cases e1
theorem Rd32.setCell {w : World} {v : Value} {xs : List Nat} (h : Rd32 w v xs) {p : Addr} {u : Value} (ho : Off p.block v) : Rd32 (w.setCell p u) v xs := by
  obtain ⟨a, c, rfl, h1, h2, h3, h4⟩ := h
  refine ⟨a, c, rfl, h1, h2, h3, fun hp => ?_⟩
  obtain ⟨b, o, rfl, h5, h6⟩ := h4 hp
  refine ⟨b, o, rfl, by simpa using h5, fun i hi => ?_⟩
  rw [World.cell?_setCell_other, h6 i hi]
  intro e
  have := ho _ _ _ rfl hp
  rw [e] at this
  exact this rfl
theorem Rd32.alloc {w : World} {v : Value} {xs : List Nat} (h : Rd32 w v xs) {o : Obj} : Rd32 (w.alloc o) v xs := h.kept ((Below.refl _ _).alloc (Nat.le_refl _) _)
theorem Rd32.drewN {w : World} {v : Value} {xs : List Nat} (h : Rd32 w v xs) {n : Nat} : Rd32 (w.drewN n) v xs := h
theorem Rd32.drew {w : World} {v : Value} {xs : List Nat} (h : Rd32 w v xs) : Rd32 w.drew v xs := h

/-- A read-only call. -/
def Quiet (w : World) (v : Value) (e : Ending) (w' : World) : Prop := e = .returned v ∧ ∃ k, w' = w.drewN k
theorem Quiet.below {w : World} {v : Value} {e : Ending} {w' : World} (h : Quiet w v e w') : e = .returned v ∧ Below w.heap.size w w' := by
  obtain ⟨he, k, rfl⟩ := h
  exact ⟨he, rfl, rfl, rfl, Nat.le_refl _, fun _ _ => rfl⟩

/-- It returns 'v' and leaves what was there. -/
def Ret (w : World) (v : Value) (e : Ending) (w' : World) : Prop := e = .returned v ∧ Below w.heap.size w w'
theorem Quiet.ret {w : World} {v : Value} {e : Ending} {w' : World} (h : Quiet w v e w') : Ret w v e w' := h.below

theorem cells_one (w : World) (v : Value) (t : TypeId) (i : Nat) (h : i < 1) : (w.alloc (.cells #[v] t)).cell? ⟨w.heap.size, 0 + i, none⟩ = some v := by
  obtain rfl : i = 0 := by omega
  simp

/-- A new row of one digit. -/
theorem Rd32.new1 (w : World) (x : Nat) (t : TypeId) (g : Nat) (hg : g = w.heap.size) (h : x < 4294967296) : Rd32 (w.alloc (.cells #[.int .u32 (x : Int)] t)) (.slice (some ⟨g, 0, none⟩) 1 1) [x] := by
  subst hg
  refine ⟨_, _, rfl, Nat.le_refl _, by simp [maxLen], Digs.cons h Digs.nil, fun _ => ⟨_, _, rfl, by simp, fun i hi => ?_⟩⟩
  obtain rfl : i = 0 := by simpa using hi
  simp
/-- A new row of two digits. -/
theorem Rd32.new2 (w : World) (x y : Nat) (t : TypeId) (g : Nat) (hg : g = w.heap.size) (h : x < 4294967296) (h' : y < 4294967296) : Rd32 (w.alloc (.cells #[.int .u32 (x : Int), .int .u32 (y : Int)] t)) (.slice (some ⟨g, 0, none⟩) 2 2) [x, y] := by
  subst hg
  refine ⟨_, _, rfl, Nat.le_refl _, by simp [maxLen], Digs.cons h (Digs.cons h' Digs.nil), fun _ => ⟨_, _, rfl, by simp, fun i hi => ?_⟩⟩
  have hi' : i < 2 := by simpa using hi
  obtain rfl | rfl : i = 0 ∨ i = 1 := by omega
  · simp
  · simp

/-- A cell of a digit. -/
abbrev U32 (x : Nat) : Value := .int .u32 (x : Int)

/-- What the call owns reads as digits. -/
theorem rd_of_owns {w : World} {base : Nat} {e : TypeId} {v : Value} {n : Nat} {xs : List Nat} (h : w.ownsRow base e 1 v n (xs.map U32)) (hd : Digs xs) :
    Rd32 w v xs ∧ (∀ R, R < base → Off R v) ∧ xs.length = n ∧ ∃ a c, v = .slice a n c := by
  obtain ⟨hl, h⟩ := h
  simp only [List.length_map, Nat.mul_one] at hl
  rcases h with ⟨rfl, h0⟩ | ⟨g, cap, cur, rfl, hb, hg, hn, hm, hs, ht⟩
  · have : xs = [] := List.eq_nil_of_length_eq_zero (by omega)
    subst this
    exact ⟨Rd32.nil w, fun R _ => Off.nil, hl, none, 0, by rw [h0]⟩
  · subst hl
    refine ⟨⟨_, _, rfl, hn, hm, hd, fun hp => ⟨g, 0, rfl, (Array.getElem?_eq_some_iff.1 hg).1, fun i hi => ?_⟩⟩, fun R hR => Off.of_lt (by omega), rfl, _, _, rfl⟩
    rw [Nat.zero_add, cell_of_row w g i cur e (0, 0) hg]
    have h1 : (xs.map U32)[i]? = some (U32 (xs.getD i 0)) := by simp [List.getD, hi]
    rw [← ht, List.getElem?_take] at h1
    simp only [Nat.mul_one] at h1
    rw [if_pos hi] at h1
    simpa using h1

theorem push_below {B e size n : Nat} {w wr w' : World} {o : Value} {O : Obj} {xs : List Value} (h : Below B w wr) (hB : B ≤ wr.heap.size) (hown : wr.ownsRow B e size o n xs)
    (hg : (wr.alloc O).grownBy w' o.ownBlock) : Below B w w' :=
  (h.alloc hB O).grown hg (by simp; omega) (fun k hk => (hown.lt k hk).1)

/-- A slice of digits in new memory. -/
def GivesL (w : World) (n : Nat) (e : Ending) (w' : World) : Prop :=
  ∃ a c zs, e = .returned (.slice a zs.length c) ∧ Rd32 w' (.slice a zs.length c) zs ∧ val zs = n ∧ (∀ R, R < w.heap.size → Off R (.slice a zs.length c)) ∧ Below w.heap.size w w'

theorem givesL_of {w w1 : World} {n m : Nat} {v : Value} {e : TypeId} {zs : List Nat} (hown : w1.ownsRow w.heap.size e 1 v m (zs.map U32)) (hd : Digs zs) (hv : val zs = n) (hb : Below w.heap.size w w1) :
    GivesL w n (.returned v) w1 := by
  obtain ⟨h1, h2, rfl, a, c, rfl⟩ := rd_of_owns hown hd
  exact ⟨a, c, zs, rfl, h1, hv, h2, hb⟩
theorem map_snoc (zs : List Nat) (x : Nat) : zs.map U32 ++ [.int .u32 (x : Int)] = (zs ++ [x]).map U32 := by simp

/-- The digits of 'n' in new memory. -/
def GivesD (w : World) (n : Nat) (e : Ending) (w' : World) : Prop :=
  ∃ a c, e = .returned (.slice a (dig n).length c) ∧ Rd32 w' (.slice a (dig n).length c) (dig n) ∧ (∀ R, R < w.heap.size → Off R (.slice a (dig n).length c)) ∧ Below w.heap.size w w'

/-- Block 'g' is a row of 'N' cells of the call's own that hold digits. -/
def Own32 (w : World) (g N : Nat) (zs : List Nat) : Prop :=
  zs.length = N ∧ Digs zs ∧ g < w.heap.size ∧ ∀ i, i < N → w.cell? ⟨g, i, none⟩ = some (U32 (zs.getD i 0)) ∧ w.frozen? ⟨g, i, none⟩ = false
theorem Own32.set {w : World} {g N j d : Nat} {zs : List Nat} (h : Own32 w g N zs) (hj : j < N) (hd : d < 4294967296) : Own32 (w.setCell ⟨g, j, none⟩ (U32 d)) g N (zs.set j d) := by
  obtain ⟨h1, h2, h3, h4⟩ := h
  refine ⟨by simpa using h1, h2.set j d hd, by simpa using h3, fun i hi => ?_⟩
  by_cases e : j = i
  · subst e
    rw [getD_set_self (by omega)]
    exact ⟨World.cell?_setCell_same _ _ _ (h4 j hi).1, by rw [World.frozen?_setCell]; exact (h4 j hi).2⟩
  · rw [getD_set_other e]
    refine ⟨?_, by rw [World.frozen?_setCell]; exact (h4 i hi).2⟩
    rw [World.cell?_setCell_other _ _ _ _ (by intro h; injection h with _ h2; exact e h2)]
    exact (h4 i hi).1
theorem Own32.drewN {w : World} {g N n : Nat} {zs : List Nat} (h : Own32 w g N zs) : Own32 (w.drewN n) g N zs := h
theorem Own32.drew {w : World} {g N : Nat} {zs : List Nat} (h : Own32 w g N zs) : Own32 w.drew g N zs := h
theorem Own32.alloc {w : World} {g N : Nat} {zs : List Nat} (h : Own32 w g N zs) {o : Obj} : Own32 (w.alloc o) g N zs := by
  obtain ⟨h1, h2, h3, h4⟩ := h
  refine ⟨h1, h2, by simp; omega, fun i hi => ⟨?_, ?_⟩⟩
  · rw [World.cell?_alloc_lt _ _ _ h3]; exact (h4 i hi).1
  · rw [World.frozen?_alloc_old _ _ _ (Nat.ne_of_lt h3)]; exact (h4 i hi).2
theorem Own32.rd {w : World} {g N c : Nat} {zs : List Nat} (h : Own32 w g N zs) (hc : N ≤ c) (hm : c ≤ maxLen) : Rd32 w (.slice (some ⟨g, 0, none⟩) N c) zs := by
  obtain ⟨rfl, h2, h3, h4⟩ := h
  exact ⟨_, _, rfl, hc, hm, h2, fun _ => ⟨g, 0, rfl, h3, fun i hi => by rw [Nat.zero_add]; exact (h4 i hi).1⟩⟩
theorem Own32.of_made {w : World} {base g N : Nat} {e : TypeId} (h : w.ownsRow base e 1 (.slice (some ⟨g, 0, none⟩) N N) N (madeCells #[Value.int .u32 0] N).toList) : Own32 w g N (List.replicate N 0) := by
  have hz : ∀ i : Nat, (List.replicate N 0).getD i 0 = 0 := fun i => by
    simp only [List.getD, List.getElem?_replicate]; split <;> rfl
  rcases h.2 with ⟨h1, _⟩ | ⟨g', cap, cur, e1, hb, hg, hn, hm, hs, ht⟩
  · simp at h1
  · obtain ⟨e2, _, rfl⟩ := Value.slice.inj e1
    cases e2
    refine ⟨by simp, fun i => by rw [hz]; omega, (Array.getElem?_eq_some_iff.1 hg).1, fun i hi => ⟨?_, ?_⟩⟩
    · rw [cell_of_row w g i cur e (0, 0) hg, hz]
      have h1 : (cur.toList.take (N * 1))[i]? = (madeCells #[Value.int .u32 0] N).toList[i]? := by rw [ht]
      rw [List.getElem?_take, if_pos (by omega)] at h1
      have h2 : (madeCells #[Value.int .u32 0] N).toList[i]? = some (U32 0) := by
        simp [madeCells, Value.cells, hi, Nat.mod_one]
      rw [h2] at h1
      simpa using h1
    · simp [World.frozen?, hg]

/-- A row that the call owns, as a block that it may write. -/
theorem own32_of_owns {w : World} {base : Nat} {e : TypeId} {v : Value} {n : Nat} {zs : List Nat} (h : w.ownsRow base e 1 v n (zs.map U32)) (hd : Digs zs) (hn : 0 < n) :
    ∃ g cap, v = .slice (some ⟨g, 0, none⟩) n cap ∧ n ≤ cap ∧ cap ≤ maxLen ∧ base ≤ g ∧ Own32 w g n zs := by
  obtain ⟨hl, h⟩ := h
  simp only [List.length_map, Nat.mul_one] at hl
  rcases h with ⟨rfl, h0⟩ | ⟨g, cap, cur, rfl, hb, hg, hn', hm, hs, ht⟩
  · omega
  · refine ⟨g, cap, rfl, hn', hm, hb, hl, hd, (Array.getElem?_eq_some_iff.1 hg).1, fun i hi => ⟨?_, by simp [World.frozen?, hg]⟩⟩
    rw [cell_of_row w g i cur e (0, 0) hg]
    have h1 : (zs.map U32)[i]? = some (U32 (zs.getD i 0)) := by simp [List.getD, hl, hi]
    rw [← ht, List.getElem?_take] at h1
    simp only [Nat.mul_one] at h1
    rw [if_pos hi] at h1
    simpa using h1
/-- The cells of a slice that is read, for an append from it. -/
theorem Rd32.news {w : World} {b o n c : Nat} {xs : List Nat} (h : ∀ i, i < xs.length → w.cell? ⟨b, o + i, none⟩ = some (U32 (xs.getD i 0))) :
    ∀ j u, (xs.map U32)[j]? = some u → w.cell? ((⟨b, o, none⟩ : Addr).add j) = some u := by
  intro j u hu
  have hj : j < xs.length := by
    have := (List.getElem?_eq_some_iff.1 hu).1
    simpa using this
  rw [Addr.add_lit, h j hj]
  have e : (xs.map U32)[j]? = some (U32 (xs.getD j 0)) := by simp [List.getD, hj]
  rw [e] at hu
  exact hu
theorem u32_one (xs : List Nat) : ∀ u ∈ xs.map U32, u.oneCell' = true := by
  intro u hu
  obtain ⟨_, _, rfl⟩ := List.mem_map.1 hu
  rfl

theorem frozen_later {w wx : World} {a : Addr} {v : Value} (hb : Below w.heap.size w wx) (hc : w.cell? a = some v) (h : w.frozen? a = false) : wx.frozen? a = false :=
  (hb.frozen (World.block_lt_of_cell? _ _ hc)).trans h

/-- A slice's length, for measures. -/
def slen : Value → Nat | .slice _ n _ => n | _ => 0

theorem ret_int {k : IntKind} {a b : Int} (h : a = b) : Ending.returned (.int k a) = .returned (.int k b) := by rw [h]
theorem ret_bool {a b : Bool} (h : a = b) : Ending.returned (.bool a) = .returned (.bool b) := by rw [h]

theorem below_drewN {B n : Nat} {a w : World} (h : Below B a w) : Below B a (w.drewN n) := ⟨h.os, h.tape, h.output, h.size, h.block⟩

theorem bcell {B : Nat} {W w1 : World} (hb : Below B W w1) : (∀ b o, b < B → w1.cell? ⟨b, o, none⟩ = W.cell? ⟨b, o, none⟩) ∧ (∀ b o, b < B → w1.frozen? ⟨b, o, none⟩ = W.frozen? ⟨b, o, none⟩) :=
  ⟨fun b o h => hb.cell (p := ⟨b, o, none⟩) h, fun b o h => hb.frozen (p := ⟨b, o, none⟩) h⟩

end Go.Proofs.YtfmlpaplnkohpaaGreatDoor.Fr

namespace Go.Proofs.YtfmlpaplnkohpaaGreatDoor
open Go Go.RowKit

section
variable {P : Program} {ops : Array Oper} {Q : Exit → Act → World → Prop} {md : Region.Mode} {T S : World → Prop} {st : Nat}

/-- Whatever order is picked from here on, and S holds behind every operation that comes up before st does. -/
def wpAnyB (P : Program) (md : Region.Mode) (ops : Array Oper) (Q : Exit → Act → World → Prop) (T S : World → Prop) (st : Nat) : Nat → Array Bool → Act → World → Prop
  | 0, listed, a, w => Region.ready md ops listed = [] ∧ Q .normal a w
  | fuel + 1, listed, a, w =>
    (Region.ready md ops listed = [] → Q .normal a w) ∧
    ∀ i ∈ Region.ready md ops listed, wpOp P ops Q i (fun a' w' => (((listed.setIfInBounds i true).getD st true = false → S w') ∧ T w') ∧ wpAnyB P md ops Q T S st fuel (listed.setIfInBounds i true) a' w') a w

theorem wpAny_of_before : ∀ (fuel : Nat) (listed : Array Bool) (a : Act) (w : World), wpAnyB P md ops Q T S st fuel listed a w → wpAny P md ops Q fuel listed a w
  | 0, _, _, _, h => h
  | fuel + 1, _, _, _, h => ⟨h.1, fun i hi => wpOp_mono (fun a' w' h' => wpAny_of_before fuel _ a' w' h'.2) (h.2 i hi)⟩

theorem wpAnyB_first {i : Nat} {oi : Oper} {v : Value} (hi : ops[i]? = some oi) (hsel : ∀ (j : Nat) (o : Oper) cs b, ops[j]? = some o → o.op ≠ .select cs b)
    (hQ : ∀ c a w, Q (.panic c) (a.put oi.dst v) w → Q (.panic c) a w) (path : List Nat) (hmem : st ∈ path) (hpi : i ∉ path)
    (hpath : ∀ c ∈ path, ∀ o, ops[c]? = some o → ∃ e ∈ o.after, Region.binds md e = true ∧ (e.on = i ∨ e.on ∈ path)) :
    ∀ (fuel : Nat) (listed : Array Bool) (a : Act) (w : World),
      (∀ j oj, ops[j]? = some oj → j ≠ i → listed.getD j true = false → (∀ e ∈ oj.after, Region.binds md e = true → e.on ≠ i) → oi.apart ops oj = true) →
      i ∈ Region.ready md ops listed → YieldsIf P ops (fun w => S w ∧ T w) oi v a → S w → T w → (∀ c ∈ path, listed.getD c true = false) →
      wpAnyB P md ops Q T S st fuel (listed.setIfInBounds i true) (a.put oi.dst v) w → wpAnyB P md ops Q T S st (fuel + 1) listed a w := by
  intro fuel
  induction fuel with
  | zero =>
    intro listed a w _ hr hy hS hTw hu H
    refine ⟨fun h => (by rw [h] at hr; cases hr), fun j hj => ?_⟩
    by_cases hji : j = i
    · subst hji; exact hy.wpOp hi ⟨hS, hTw⟩ ⟨⟨fun _ => hS, hTw⟩, H⟩
    · have := ready_mono hj hji
      rw [H.1] at this
      cases this
  | succ fuel ih =>
    intro listed a w hfree hr hy hS hTw hu H
    refine ⟨fun h => (by rw [h] at hr; cases hr), fun j hj => ?_⟩
    by_cases hji : j = i
    · subst hji; exact hy.wpOp hi ⟨hS, hTw⟩ ⟨⟨fun _ => hS, hTw⟩, H⟩
    · have h1 := H.2 j (ready_mono hj hji)
      obtain ⟨hjun, oj, hoj, hall⟩ := mem_ready.1 hj
      have hnot : ∀ e ∈ oj.after, Region.binds md e = true → e.on ≠ i := fun e he hb heq => by
        have h1 := hall e he hb
        have h0 := (mem_ready.1 hr).1
        rw [heq] at h1
        rcases Nat.lt_or_ge i listed.size with h' | h'
        · simp [h'] at h0 h1; rw [h0] at h1; cases h1
        · simp [Array.getElem?_eq_none h'] at h1
      have hjp : j ∉ path := fun hm => by
        obtain ⟨e, he, hb, h | h⟩ := hpath j hm oj hoj
        · exact hnot e he hb h
        · have h1 := hall e he hb
          have h0 := hu _ h
          rcases Nat.lt_or_ge e.on listed.size with h' | h'
          · simp [h'] at h0 h1; rw [h0] at h1; cases h1
          · simp [Array.getElem?_eq_none h'] at h1
      have h2 := wpOp_putIf hoj (hfree j oj hoj hji hjun hnot) (fun cs b => hsel i oi cs b hi) (fun cs b => hsel j oj cs b hoj) hQ hy h1
      have hfree' : ∀ k ok, ops[k]? = some ok → k ≠ i → (listed.setIfInBounds j true).getD k true = false →
          (∀ e ∈ ok.after, Region.binds md e = true → e.on ≠ i) → oi.apart ops ok = true := fun k ok hk hki hun hno => by
        refine hfree k ok hk hki ?_ hno
        by_cases hjk : j = k
        · subst hjk; exact hjun
        · rw [getD_set_ne true hjk] at hun; exact hun
      have hu1 : ∀ c ∈ path, (listed.setIfInBounds j true).getD c true = false := fun c hc => by rw [getD_set_ne true (show j ≠ c from fun e => hjp (by rw [e]; exact hc))]; exact hu c hc
      have hu2 : ((listed.setIfInBounds i true).setIfInBounds j true).getD st true = false := by rw [getD_set_ne true (show j ≠ st from fun e => hjp (by rw [e]; exact hmem)), getD_set_ne true (show i ≠ st from fun e => hpi (by rw [e]; exact hmem))]; exact hu st hmem
      refine wpOp_mono (fun a' w' h3 => ⟨⟨fun _ => h3.2.1.1 hu2, h3.2.1.2⟩, ih (listed.setIfInBounds j true) a' w' hfree' (ready_mono hr (Ne.symm hji)) h3.1 (h3.2.1.1 hu2) h3.2.1.2 hu1 ?_⟩) h2
      rw [Array.setIfInBounds_comm _ _ hji]
      exact h3.2.2

theorem wpAnyB_firstT {i : Nat} {oi : Oper} {v : Value} (hi : ops[i]? = some oi) (hsel : ∀ (j : Nat) (o : Oper) cs b, ops[j]? = some o → o.op ≠ .select cs b)
    (hQ : ∀ c a w, Q (.panic c) (a.put oi.dst v) w → Q (.panic c) a w) (his : i ≠ st) :
    ∀ (fuel : Nat) (listed : Array Bool) (a : Act) (w : World),
      (∀ j oj, ops[j]? = some oj → j ≠ i → listed.getD j true = false → (∀ e ∈ oj.after, Region.binds md e = true → e.on ≠ i) → oi.apart ops oj = true) →
      i ∈ Region.ready md ops listed → YieldsIf P ops T oi v a → (listed.getD st true = false → S w) → T w →
      wpAnyB P md ops Q T S st fuel (listed.setIfInBounds i true) (a.put oi.dst v) w → wpAnyB P md ops Q T S st (fuel + 1) listed a w := by
  intro fuel
  induction fuel with
  | zero =>
    intro listed a w _ hr hy hS hTw H
    refine ⟨fun h => (by rw [h] at hr; cases hr), fun j hj => ?_⟩
    by_cases hji : j = i
    · subst hji; exact hy.wpOp hi hTw ⟨⟨fun h => hS (by rw [getD_set_ne true his] at h; exact h), hTw⟩, H⟩
    · have := ready_mono hj hji
      rw [H.1] at this
      cases this
  | succ fuel ih =>
    intro listed a w hfree hr hy hS hTw H
    refine ⟨fun h => (by rw [h] at hr; cases hr), fun j hj => ?_⟩
    by_cases hji : j = i
    · subst hji; exact hy.wpOp hi hTw ⟨⟨fun h => hS (by rw [getD_set_ne true his] at h; exact h), hTw⟩, H⟩
    · have h1 := H.2 j (ready_mono hj hji)
      obtain ⟨hjun, oj, hoj, hall⟩ := mem_ready.1 hj
      have hnot : ∀ e ∈ oj.after, Region.binds md e = true → e.on ≠ i := fun e he hb heq => by
        have h1 := hall e he hb
        have h0 := (mem_ready.1 hr).1
        rw [heq] at h1
        rcases Nat.lt_or_ge i listed.size with h' | h'
        · simp [h'] at h0 h1; rw [h0] at h1; cases h1
        · simp [Array.getElem?_eq_none h'] at h1
      have h2 := wpOp_putIf hoj (hfree j oj hoj hji hjun hnot) (fun cs b => hsel i oi cs b hi) (fun cs b => hsel j oj cs b hoj) hQ hy h1
      have hfree' : ∀ k ok, ops[k]? = some ok → k ≠ i → (listed.setIfInBounds j true).getD k true = false →
          (∀ e ∈ ok.after, Region.binds md e = true → e.on ≠ i) → oi.apart ops ok = true := fun k ok hk hki hun hno => by
        refine hfree k ok hk hki ?_ hno
        by_cases hjk : j = k
        · subst hjk; exact hjun
        · rw [getD_set_ne true hjk] at hun; exact hun
      have hback : ∀ w' : World, (((listed.setIfInBounds i true).setIfInBounds j true).getD st true = false → S w') → (listed.setIfInBounds j true).getD st true = false → S w' := fun w' h h' => h (by
        rw [Array.setIfInBounds_comm _ _ (Ne.symm hji), getD_set_ne true his]
        exact h')
      refine wpOp_mono (fun a' w' h3 => ⟨⟨hback w' h3.2.1.1, h3.2.1.2⟩, ih (listed.setIfInBounds j true) a' w' hfree' (ready_mono hr (Ne.symm hji)) h3.1 (hback w' h3.2.1.1) h3.2.1.2 ?_⟩) h2
      rw [Array.setIfInBounds_comm _ _ hji]
      exact h3.2.2

/-- operation st waits for operation i, by way of the operations of path, none of which has come up -/
def waitsFor (md : Region.Mode) (ops : Array Oper) (st i : Nat) (listed : Array Bool) (path : List Nat) : Bool :=
  path.contains st && !path.contains i && path.all fun c => listed.getD c true == false && match ops[c]? with
    | none => true
    | some o => o.after.any fun e => Region.binds md e && (e.on == i || path.contains e.on)
theorem waitsFor_spec {i : Nat} {listed : Array Bool} {path : List Nat} (h : waitsFor md ops st i listed path = true) :
    st ∈ path ∧ i ∉ path ∧ (∀ c ∈ path, ∀ o, ops[c]? = some o → ∃ e ∈ o.after, Region.binds md e = true ∧ (e.on = i ∨ e.on ∈ path)) ∧ ∀ c ∈ path, listed.getD c true = false := by
  unfold waitsFor at h
  rw [Bool.and_eq_true, Bool.and_eq_true, List.all_eq_true] at h
  obtain ⟨⟨h1, h2⟩, h3⟩ := h
  refine ⟨by simpa using h1, by simpa using h2, fun c hc o ho => ?_, fun c hc => ?_⟩
  · have h4 := h3 c hc
    rw [ho, Bool.and_eq_true] at h4
    obtain ⟨k, hk, hp⟩ := Array.any_eq_true.1 h4.2
    rw [Bool.and_eq_true] at hp
    exact ⟨_, Array.getElem_mem hk, hp.1, by simpa using hp.2⟩
  · have h4 := h3 c hc
    rw [Bool.and_eq_true] at h4
    simpa using h4.1

theorem wpAnyB_take {i : Nat} {oi : Oper} {v : Value} {fuel : Nat} {listed : Array Bool} {a : Act} {w : World} (hi : ops[i]? = some oi)
    (hs : Region.noSelect ops = true) (hf : Region.free md ops listed i = true) (hr : (Region.ready md ops listed).contains i = true)
    (path : List Nat) (hst : waitsFor md ops st i listed path = true)
    (hQ : ∀ c a w, Q (.panic c) (a.put oi.dst v) w → Q (.panic c) a w) (hy : YieldsIf P ops (fun w => S w ∧ T w) oi v a) (hS : S w) (hTw : T w)
    (h : wpAnyB P md ops Q T S st fuel (listed.setIfInBounds i true) (a.put oi.dst v) w) : wpAnyB P md ops Q T S st (fuel + 1) listed a w := by
  obtain ⟨h1, h2, h3, h4⟩ := waitsFor_spec hst
  exact wpAnyB_first hi (Region.noSelect_spec hs) hQ path h1 h2 h3 fuel listed a w (Region.free_spec hi hf) (by simpa using hr) hy hS hTw h4 h

/-- a load of a cell that no operation of the region writes -/
theorem wpAnyB_takeT {i : Nat} {oi : Oper} {v : Value} {fuel : Nat} {listed : Array Bool} {a : Act} {w : World} (hi : ops[i]? = some oi)
    (hs : Region.noSelect ops = true) (hf : Region.free md ops listed i = true) (hr : (Region.ready md ops listed).contains i = true)
    (hst : decide (i ≠ st) = true)
    (hQ : ∀ c a w, Q (.panic c) (a.put oi.dst v) w → Q (.panic c) a w) (hy : YieldsIf P ops T oi v a) (hS : listed.getD st true = false → S w) (hTw : T w)
    (h : wpAnyB P md ops Q T S st fuel (listed.setIfInBounds i true) (a.put oi.dst v) w) : wpAnyB P md ops Q T S st (fuel + 1) listed a w :=
  wpAnyB_firstT hi (Region.noSelect_spec hs) hQ (by simpa using hst) fuel listed a w (Region.free_spec hi hf) (by simpa using hr) hy hS hTw h

/-- Each of the operations 'rs' comes up next. -/
def AllReadyB (P : Program) (md : Region.Mode) (ops : Array Oper) (Q : Exit → Act → World → Prop) (T S : World → Prop) (st : Nat) (fuel : Nat) (listed : Array Bool) (a : Act) (w : World) (rs : List Nat) : Prop :=
  ∀ i ∈ rs, wpOp P ops Q i (fun a' w' => (((listed.setIfInBounds i true).getD st true = false → S w') ∧ T w') ∧ wpAnyB P md ops Q T S st fuel (listed.setIfInBounds i true) a' w') a w
theorem AllReadyB.nil {fuel : Nat} {listed : Array Bool} {a : Act} {w : World} : AllReadyB P md ops Q T S st fuel listed a w [] := fun _ h => by cases h
theorem AllReadyB.cons {fuel : Nat} {listed : Array Bool} {a : Act} {w : World} {i : Nat} {o : Oper} {rs : List Nat} (ho : ops[i]? = some o)
    (h : ∀ K' : Act → World → Prop, Shut (∀ a w, ((listed.setIfInBounds i true).getD st true = false → S w) → T w → wpAnyB P md ops Q T S st fuel (listed.setIfInBounds i true) a w → K' a w) → if Region.wanted o (yielded ops a.tmps) = true then Oper.wp P o a w K' Q else K' (a.put o.dst undef) w)
    (hs : AllReadyB P md ops Q T S st fuel listed a w rs) : AllReadyB P md ops Q T S st fuel listed a w (i :: rs) := fun j hj => by
  rcases List.mem_cons.1 hj with rfl | hj
  · exact wpOp_step ho (fun K' hK => h K' (fun a w hS hTw hW => hK a w ⟨⟨hS, hTw⟩, hW⟩))
  · exact hs j hj
theorem wpAnyB_ready {rs : List Nat} {fuel : Nat} {listed : Array Bool} {a : Act} {w : World} (hr : Region.ready md ops listed = rs) (hne : rs ≠ [])
    (h : AllReadyB P md ops Q T S st fuel listed a w rs) : wpAnyB P md ops Q T S st (fuel + 1) listed a w := ⟨fun h0 => absurd (hr ▸ h0) hne, hr ▸ h⟩
theorem wpAnyB_done {listed : Array Bool} {a : Act} {w : World} (hr : Region.ready md ops listed = []) (h : Q .normal a w) :
    ∀ fuel, wpAnyB P md ops Q T S st fuel listed a w
  | 0 => ⟨hr, h⟩
  | _ + 1 => ⟨fun _ => h, by rw [hr]; simp⟩
theorem wp_region_before {id : Nat} {a : Act} {w : World} (hm : P.follows .mixedOrders = true)
    (h : wpAnyB P .any ops Q T S st ops.size (Array.replicate ops.size false) a w.drew) : (Code.region id ops true).wp P Q a w :=
  wp_region_any hm (wpAny_of_before _ _ _ _ h)
end

end Go.Proofs.YtfmlpaplnkohpaaGreatDoor
