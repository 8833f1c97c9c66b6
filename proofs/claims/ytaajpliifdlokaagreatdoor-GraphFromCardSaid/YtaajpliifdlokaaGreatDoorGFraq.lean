/- Contract of the reference's Project. Contract of the reference's Copy. Contract of the reference's Select. (T holds throughout, S till operation st.) A region that draws its order: loads are taken first, where the only writers of their cells are ops that wait for all of the loads. The kit's law (OrdersHeld) asks the cells anew behind every operation; here only till operation st has come up. Contract of the reference's rows (chapter 38). Contracts of the reference's do, Run (chapter 38). Contract of the reference's Run at one operation (chapter 38). The kit's dice: their memory; Mod, Next, Word. DERIVED: THE SHELF's CONTRACTS AT THIS DUMP, IN PLAIN WORDS (tools/lay-plain.mjs out of 'YtaajpliifdlokaaGreatDoorShJL.lean', which tools/lay-shelf.mjs wrote): THE SAME DECLARATIONS UNDER THE SAME NAMES: 'import', 'namespace', 'open', 'def', 'theorem' AND NOTHING ELSE: no command of the shelf's: FOR A HAND-IN. Each laying: the table of numbers ('.._ren') and one theorem, a field a fact of the dump's own or the kernel's comparison; each contract: ONE APPLICATION. Contracts of the kit's dice: Cell, Number. Contract of the kit's dice: Column. Contract of the kit's dice: Table. Contract of the kit's Op. -/
import Derived.Deep.RegionLawGrows
import Derived.Test.YtaajpliifdlokaaGreatDoorGFrap
import Derived.Deep.RegionHeld3
import Derived.Test.YtaajpliifdlokaaGreatDoorGFrab
import Derived.Deep.DeepCutAuto
import Derived.Deep.CutRange
import Derived.Deep.CutBlock
import Derived.IntWalk
import Derived.Lib.LaidTab
import Derived.Shelf.Strconv.Itoa3
import Derived.Test.YtaajpliifdlokaaGreatDoorGFrah
import Derived.Test.YtaajpliifdlokaaGreatDoorGFrao
import Derived.Test.YtaajpliifdlokaaGreatDoorProg
set_option linter.unusedVariables false
set_option linter.unusedSimpArgs false
namespace Go.Proofs.YtaajpliifdlokaaGreatDoor
open Go.RowKit
structure GrowSt (w0 ws W : World) (cb base : Nat) (t : TypeId) (vs : Value → Array Value) (e : TypeId) (k : Nat) (v : Value) (n : Nat) (L : List Value) : Prop where
  bel : Below w0.heap.size w0 W
  box : BoxN W cb t (vs v)
  own : W.ownsRow base e k v n L
  low : base ≤ W.heap.size
  keep : ∀ i, i < base → i ≠ cb → W.heap[i]? = ws.heap[i]?
section
variable {w0 ws W W' : World} {cb base : Nat} {t : TypeId} {vs : Value → Array Value} {e : TypeId} {k : Nat} {v : Value} {n : Nat} {L : List Value}
theorem GrowSt.later (h : GrowSt w0 ws W cb base t vs e k v n L) (hb : Below W.heap.size W W') (hw : w0.heap.size ≤ W.heap.size) : GrowSt w0 ws W' cb base t vs e k v n L :=
  have hlo := h.low
  ⟨h.bel.trans (hb.mono hw), h.box.below hb h.box.lt, own_later h.own hb, Nat.le_trans h.low hb.size, fun i h1 h2 => (hb.block i (by omega)).trans (h.keep i h1 h2)⟩
theorem GrowSt.push (h : GrowSt w0 ws W cb base t vs e k v n L) {v' : Value} {m : Nat} {L' : List Value} (hown : W'.ownsRow base e k v' m L') (hgr : W.grownBy W' v.ownBlock) (i : Nat) (hi : (vs v).setIfInBounds i v' = vs v') (hcb : cb < base) (hc0 : w0.heap.size ≤ cb) :
    GrowSt w0 ws (W'.setCell ⟨cb, i, none⟩ v') cb base t vs e k v' m L' := by
  have hv : ∀ k, v.ownBlock = some k → base ≤ k := fun k hk => (h.own.lt k hk).1
  have hlo := h.low
  have hx : ∀ k, k < base → W'.heap[k]? = W.heap[k]? := fun k hk => hgr.block k (by omega) (fun e => by have := hv k e.symm; omega)
  have hb : Below w0.heap.size w0 W' := h.bel.trans ⟨hgr.os, hgr.tape, hgr.output, hgr.size, fun k hk => hx k (by omega)⟩
  have hbx := (show BoxN W' cb t (vs v) from (hx cb hcb).trans h.box).set i v'
  rw [hi] at hbx
  exact ⟨hb.setCell (p := ⟨cb, i, none⟩) hc0 _, hbx, ownsRow_setCell_below hown hcb _, by have := hgr.size; simp; omega, fun k h1 h2 => (Below.heap_setCell _ _ _ _ h2).trans ((hx k h1).trans (h.keep k h1 h2))⟩
end
theorem projL_len (xs : List Co) (ks : List Int) : (projL xs ks).length = ks.length := by simp [projL]
def PickedT (w : World) (B : Nat) (id : Int) (nm : ByteArray) (ys : List Co) (e : Ending) (w' : World) : Prop :=
  ∃ v, e = .returned (.tuple #[.agg #[.int .i64 id, .string nm, v], .int .i64 0]) ∧ RdCo w' (fun b => b < B ∨ News w w' b) v ys ∧ Below w.heap.size w w'
end Go.Proofs.YtaajpliifdlokaaGreatDoor

namespace Go.Proofs.YtaajpliifdlokaaGreatDoor
open Go.RowKit
structure ToSt (w0 ws W : World) (cb base : Nat) (id : Int) (nm : ByteArray) (v : Value) (ys : List Co) : Prop where
  bel : Below w0.heap.size w0 W
  box : BoxN W cb 51 #[.int .i64 id, .string nm, v]
  own : CoSt W base 55 v ys
  low : base ≤ W.heap.size
  keep : ∀ k, k < base → k ≠ cb → W.heap[k]? = ws.heap[k]?
section
variable {w0 ws W W' : World} {cb base : Nat} {id : Int} {nm : ByteArray} {v : Value} {ys : List Co}
theorem ToSt.later (h : ToSt w0 ws W cb base id nm v ys) (hb : Below W.heap.size W W') (hw : w0.heap.size ≤ W.heap.size) (h0 : 0 < base) : ToSt w0 ws W' cb base id nm v ys :=
  have hlo := h.low
  ⟨h.bel.trans (hb.mono hw), h.box.below hb h.box.lt, h.own.roll (Roll.of_below hb 0) (Nat.le_refl _) h0, Nat.le_trans h.low hb.size, fun i h1 h2 => (hb.block i (by omega)).trans (h.keep i h1 h2)⟩
theorem ToSt.push (h : ToSt w0 ws W cb base id nm v ys) {x : Co} {L : List Value} {u : Value} {p m cap : Nat} (hm : m = ys.length + 1) (hL : W.ownsRow base 55 2 v ys.length L)
    (hown : W'.ownsRow base 55 2 (.slice (some ⟨p, 0, none⟩) m cap) m (L ++ [.string x.name, u])) (hgr : W.grownBy W' v.ownBlock) (hat : v.ownBlock = some p ∨ p = W.heap.size)
    (hnew : RdCl W (Own W base v) u x.cells) (hcb : cb < base) (hc0 : w0.heap.size ≤ cb) :
    ToSt w0 ws (W'.setCell ⟨cb, 2, none⟩ (.slice (some ⟨p, 0, none⟩) m cap)) cb base id nm (.slice (some ⟨p, 0, none⟩) m cap) (ys ++ [x]) := by
  have hv : ∀ k, v.ownBlock = some k → base ≤ k := fun k hk => (hL.lt k hk).1
  have hlo := h.low
  have hx' : ∀ k, k < base → W'.heap[k]? = W.heap[k]? := fun k hk => hgr.block k (by omega) (fun e => by have := hv k e.symm; omega)
  have hb : Below w0.heap.size w0 W' := h.bel.trans ⟨hgr.os, hgr.tape, hgr.output, hgr.size, fun k hk => hx' k (by omega)⟩
  exact ⟨hb.setCell (p := ⟨cb, 2, none⟩) hc0 _, (show BoxN W' cb _ _ from (hx' cb hcb).trans h.box).set 2 _, (h.own.push hL hm hown hgr hat hnew).setCell hcb _, by have := hgr.size; simp; omega, fun k h1 h2 => (Below.heap_setCell _ _ _ _ h2).trans ((hx' k h1).trans (h.keep k h1 h2))⟩
end
def NewT (w : World) (id : Int) (nm : ByteArray) (ys : List Co) (e : Ending) (w' : World) : Prop :=
  ∃ v, e = .returned (.agg #[.int .i64 id, .string nm, v]) ∧ CoSt w' w.heap.size 55 v ys ∧ Below w.heap.size w w'
end Go.Proofs.YtaajpliifdlokaaGreatDoor

namespace Go.Proofs.YtaajpliifdlokaaGreatDoor
open Go.RowKit
def pickL (c : List Cl) (rs : List Nat) : List Cl := rs.map fun r => c.getD r Cl.z
end Go.Proofs.YtaajpliifdlokaaGreatDoor

namespace Go.Proofs.YtaajpliifdlokaaGreatDoor
open Go Go.RowKit
section
variable {P : Program} {ops : Array Oper} {Q : Exit → Act → World → Prop} {md : Region.Mode} {T S : World → Prop} {st : Nat}
def wpAnyB (P : Program) (md : Region.Mode) (ops : Array Oper) (Q : Exit → Act → World → Prop) (T S : World → Prop) (st : Nat) : Nat → Array Bool → Act → World → Prop
  | 0, listed, a, w => Region.ready md ops listed = [] ∧ Q .normal a w
  | fuel + 1, listed, a, w =>
    (Region.ready md ops listed = [] → Q .normal a w) ∧
    ∀ i ∈ Region.ready md ops listed, wpOp P ops Q i (fun a' w' => (((listed.setIfInBounds i true).getD st true = false → S w') ∧ T w') ∧ wpAnyB P md ops Q T S st fuel (listed.setIfInBounds i true) a' w') a w
def waitsFor (md : Region.Mode) (ops : Array Oper) (st i : Nat) (listed : Array Bool) (path : List Nat) : Bool :=
  path.contains st && !path.contains i && path.all fun c => listed.getD c true == false && match ops[c]? with
    | none => true
    | some o => o.after.any fun e => Region.binds md e && (e.on == i || path.contains e.on)
def AllReadyB (P : Program) (md : Region.Mode) (ops : Array Oper) (Q : Exit → Act → World → Prop) (T S : World → Prop) (st : Nat) (fuel : Nat) (listed : Array Bool) (a : Act) (w : World) (rs : List Nat) : Prop :=
  ∀ i ∈ rs, wpOp P ops Q i (fun a' w' => (((listed.setIfInBounds i true).getD st true = false → S w') ∧ T w') ∧ wpAnyB P md ops Q T S st fuel (listed.setIfInBounds i true) a' w') a w
theorem AllReadyB.nil {fuel : Nat} {listed : Array Bool} {a : Act} {w : World} : AllReadyB P md ops Q T S st fuel listed a w [] := fun _ h => by cases h
theorem AllReadyB.cons {fuel : Nat} {listed : Array Bool} {a : Act} {w : World} {i : Nat} {o : Oper} {rs : List Nat} (ho : ops[i]? = some o)
    (h : ∀ K' : Act → World → Prop, Shut (∀ a w, ((listed.setIfInBounds i true).getD st true = false → S w) → T w → wpAnyB P md ops Q T S st fuel (listed.setIfInBounds i true) a w → K' a w) → if Region.wanted o (yielded ops a.tmps) = true then Oper.wp P o a w K' Q else K' (a.put o.dst undef) w)
    (hs : AllReadyB P md ops Q T S st fuel listed a w rs) : AllReadyB P md ops Q T S st fuel listed a w (i :: rs) := fun j hj => by
  rcases List.mem_cons.1 hj with rfl | hj
  · exact wpOp_step ho (fun K' hK => h K' (fun a w hS hTw hW => hK a w ⟨⟨hS, hTw⟩, hW⟩))
  · exact hs j hj
end
end Go.Proofs.YtaajpliifdlokaaGreatDoor

namespace Go.Proofs.YtaajpliifdlokaaGreatDoor
open Go.RowKit
def iv (l : List Nat) : List Value := l.map fun (x : Nat) => Value.int .i64 ((x : Nat) : Int)
structure OutSt (w0 W : World) (v : Value) (out : List Nat) : Prop where
  bel : Below w0.heap.size w0 W
  own : W.ownsRow w0.heap.size 3 1 v out.length (iv out)
  nil : out.length = 0 → v = .slice none 0 0
theorem OutSt.later {w0 W W' : World} {v : Value} {out : List Nat} (h : OutSt w0 W v out) (hb : Below W.heap.size W W') : OutSt w0 W' v out := ⟨h.bel.trans (hb.mono h.bel.size), own_later h.own hb, h.nil⟩
def GivesN (w : World) (l : List Nat) (e : Ending) (w' : World) : Prop := ∃ v, e = .returned v ∧ Rd w' w'.heap.size v l.length (natF l) ∧ Below w.heap.size w w'
end Go.Proofs.YtaajpliifdlokaaGreatDoor

namespace Go.Proofs.YtaajpliifdlokaaGreatDoor
open Go.RowKit
def SomeT (w : World) (B : Nat) (id : Int) (nm : ByteArray) (ys : List Co) (e : Ending) (w' : World) : Prop :=
  ∃ v, e = .returned (.agg #[.int .i64 id, .string nm, v]) ∧ RdCo w' (fun b => b < B ∨ News w w' b) v ys ∧ Below w.heap.size w w'
end Go.Proofs.YtaajpliifdlokaaGreatDoor

namespace Go.Proofs.YtaajpliifdlokaaGreatDoor
open Go.RowKit
def RunP (w : World) (t : Ta) (o : Po) (e : Ending) (w' : World) : Prop :=
  (canL t.cols.length o = true ∧ ∃ v, e = .returned (.tuple #[.agg #[.int .i64 t.id, .string t.name, v], .int .i64 0]) ∧ CoSt w' w.heap.size 55 v (doL t.cols o) ∧ Below w.heap.size w w') ∨
  (canL t.cols.length o = false ∧ e = .returned (.tuple #[.agg #[.int .i64 0, .string ⟨#[]⟩, .slice none 0 0], .int .i64 24]) ∧ Below w.heap.size w w')
end Go.Proofs.YtaajpliifdlokaaGreatDoor

namespace Go.Proofs.YtaajpliifdlokaaGreatDoor
open Go.RowKit
def Pow (w : World) : Prop := 0 < w.heap.size
theorem Pow.keep {w w' : World} (h : Pow w) (hb : w'.heap[(0 : Nat)]? = w.heap[(0 : Nat)]?) : Pow w' := by
  unfold Pow at *
  rcases Nat.lt_or_ge 0 w'.heap.size with h' | h'
  · exact h'
  · rw [Array.getElem?_eq_none h', Array.getElem?_eq_getElem h] at hb
    cases hb
theorem Pow.lt {w : World} (h : Pow w) : 0 < w.heap.size := h
theorem Pow.below {w w' : World} (h : Pow w) {B : Nat} (hb : Below B w w') (hB : w.heap.size ≤ B) : Pow w' := h.keep (hb.block _ (Nat.lt_of_lt_of_le h.lt hB))
def KDice (w : World) (g : Nat) : Prop := (0 < g ∧ Pow w) ∧
  ∃ (a : Option Addr) (n c k : Nat), w.heap[g]? = some (.cells #[.slice a n c, .int .i64 (k : Int)] 86 (0, 0)) ∧ k ≤ n ∧ n ≤ 500 ∧
    (0 < n → ∃ b o, a = some ⟨b, o, none⟩ ∧ b < g ∧ ∀ i, i < n → ∃ z : Int, w.cell? ⟨b, o + i, none⟩ = some (.int .i64 z))
section
variable {w w' : World} {g B : Nat}
theorem KDice.lt (h : KDice w g) : g < w.heap.size := by
  obtain ⟨_, a, n, c, k, hh, _⟩ := h
  exact (Array.getElem?_eq_some_iff.1 hh).1
theorem KDice.keep (h : KDice w g) (hb : ∀ k, k ≤ g → w'.heap[k]? = w.heap[k]?) : KDice w' g := by
  obtain ⟨⟨h0, hp⟩, a, n, c, k, hh, h1, h2, h3⟩ := h
  refine ⟨⟨h0, hp.keep (hb _ (by omega))⟩, a, n, c, k, (hb g (Nat.le_refl _)).trans hh, h1, h2, fun hn => ?_⟩
  obtain ⟨b, o, e, hlt, hc⟩ := h3 hn
  exact ⟨b, o, e, hlt, fun i hi => by
    obtain ⟨x, hcx⟩ := hc i hi
    exact ⟨x, (World.cell?_of_block (hb b (by omega))).trans hcx⟩⟩
theorem KDice.below (h : KDice w g) (hb : Below B w w') (hB : g < B) : KDice w' g := h.keep fun k hk => hb.block k (by omega)
theorem KDice.drewN (h : KDice w g) (n : Nat) : KDice (w.drewN n) g := h.keep fun _ _ => rfl
theorem KDice.drew (h : KDice w g) : KDice w.drew g := h.keep fun _ _ => rfl
theorem KDice.alloc (h : KDice w g) (o : Obj) : KDice (w.alloc o) g := h.below ((Below.refl _ _).alloc (Nat.le_refl _) o) h.lt
theorem KDice.store (h : KDice w g) {p : Addr} (hp : g < p.block) (u : Value) : KDice (w.setCell p u) g := h.keep fun k hk => Below.heap_setCell _ _ _ _ (by omega)
theorem KDice.next {a : Option Addr} {n c k : Nat} (h0 : 0 < g ∧ Pow w) (hh : w.heap[g]? = some (.cells #[.slice a n c, .int .i64 (k : Int)] 86 (0, 0))) (h1 : k < n) (h2 : n ≤ 500)
    (h3 : 0 < n → ∃ b o, a = some ⟨b, o, none⟩ ∧ b < g ∧ ∀ i, i < n → ∃ z : Int, w.cell? ⟨b, o + i, none⟩ = some (.int .i64 z)) : KDice (w.setCell ⟨g, 1, none⟩ (.int .i64 ((k : Int) + 1))) g := by
  refine ⟨⟨h0.1, h0.2.keep (Below.heap_setCell _ _ _ _ (by have := h0.1; show _ ≠ g; omega))⟩, a, n, c, k + 1, ?_, h1, h2, fun hn => ?_⟩
  · rw [show (((k + 1 : Nat) : Int)) = (k : Int) + 1 from by omega]
    simp [World.setCell, Array.getElem?_modify, hh]
  · obtain ⟨b, o, e, hlt, hc⟩ := h3 hn
    refine ⟨b, o, e, hlt, fun i hi => ?_⟩
    obtain ⟨x, hcx⟩ := hc i hi
    refine ⟨x, ?_⟩
    rw [World.cell?_setCell_other, hcx]
    intro e2
    injection e2 with e3
    omega
end
theorem tmod_twice (n m : Int) (hm : 1 ≤ m) : -m < Int.tmod n m ∧ Int.tmod n m < m ∧ Int.tmod n m % m = n % m := by
  have h1 := Int.emod_nonneg n (show m ≠ 0 by omega)
  have h2 := Int.emod_lt_of_pos n (show 0 < m by omega)
  have h3 : Int.tmod n m = n % m ∨ Int.tmod n m = n % m - m := by
    rw [Int.tmod_eq_emod]
    split
    · left; omega
    · right; omega
  have hz : Int.tmod n m = n % m - m → 0 < n % m := by
    intro h
    rcases Int.lt_or_le 0 n with hn | hn
    · have := Int.tmod_nonneg m (show 0 ≤ n by omega)
      omega
    · have h4 : m ∣ n → Int.tmod n m = 0 := fun hd => Int.tmod_eq_zero_of_dvd hd
      by_cases hd : m ∣ n
      · have := h4 hd
        have := Int.emod_eq_zero_of_dvd hd
        omega
      · have : n % m ≠ 0 := fun h => hd (Int.dvd_of_emod_eq_zero h)
        omega
  refine ⟨?_, ?_, ?_⟩
  · rcases h3 with h | h
    · omega
    · have := hz h; omega
  · rcases h3 with h | h <;> omega
  · rcases h3 with h | h
    · rw [h, Int.emod_emod_of_dvd _ (Int.dvd_refl _)]
    · rw [h, Int.sub_emod_right, Int.emod_emod_of_dvd _ (Int.dvd_refl _)]
set_option maxHeartbeats 400000 in
theorem kit_Mod (n m : Int) (hm : 1 ≤ m) (hm2 : m ≤ 1099511627776) (w : World) : Calls Tryz.prog 13 #[.int .i64 n, .int .i64 m] w (fun e w' => e = .returned (.int .i64 (n % m)) ∧ w = w') := by
  obtain ⟨h1, h2, h3⟩ := tmod_twice n m hm
  have HM := hid h3
  clear h3
  have hm0 : ¬ m < 1 := by omega
  have hd : decide (m < 1) = false := decide_eq_false hm0
  have hne : ¬ m = 0 := by omega
  generalize hr : Int.tmod n m = r at *
  have hw1 : IntKind.i64.wrap r = r := IntWalk.i64_in _ (by omega)
  have hw2 : IntKind.i64.wrap (r + m) = r + m := IntWalk.i64_in _ (by omega)
  go_enter Tryz.func13, Tryz.ntmps13
  go_wp2_with fail
  go_ret
  exact ⟨ret_int HM.out, rfl⟩
theorem kit_Mod0 (n m : Int) (hm : m < 1) (w : World) : Calls Tryz.prog 13 #[.int .i64 n, .int .i64 m] w (fun e w' => e = .returned (.int .i64 0) ∧ w = w') := by
  have hd : decide (m < 1) = true := decide_eq_true hm
  go_enter Tryz.func13, Tryz.ntmps13
  go_wp2_with fail
  go_ret
  exact ⟨rfl, rfl⟩
def KPick (w : World) (g : Nat) (N : Int) (e : Ending) (w' : World) : Prop :=
  ∃ m : Nat, e = .returned (.int .i64 (m : Int)) ∧ (m : Int) < max N 1 ∧ KDice w' g ∧ Roll w.heap.size g w w' ∧ w'.heap.size = w.heap.size
theorem kit_ModN (z N : Int) (h1 : 0 ≤ N) (h2 : N ≤ 1099511627776) : ∃ m : Nat, (m : Int) < max N 1 ∧ ∀ w, Calls Tryz.prog 13 #[.int .i64 z, .int .i64 N] w (fun e w' => e = .returned (.int .i64 (m : Int)) ∧ w = w') := by
  by_cases h : 1 ≤ N
  · have hlo : 0 ≤ z % N := Int.emod_nonneg _ (by omega)
    have hhi : z % N < N := Int.emod_lt_of_pos _ (by omega)
    refine ⟨(z % N).toNat, by omega, fun w => ?_⟩
    rw [show (((z % N).toNat : Nat) : Int) = z % N by omega]
    exact kit_Mod z N h h2 w
  · exact ⟨0, by omega, fun w => kit_Mod0 z N (by omega) w⟩
set_option maxHeartbeats 1000000 in
theorem kit_Next (g : Nat) (N : Int) (w : World) (hd : KDice w g) (h1 : 0 ≤ N) (h2 : N ≤ 1099511627776) :
    Calls Tryz.prog 25 #[.pointer (some ⟨g, 0, none⟩), .int .i64 N] w (KPick w g N) := by
  have HD := hid hd
  obtain ⟨h0, a, n, c, k, hh, hk, hn, hs⟩ := hd
  have H0 := hid h0
  clear h0
  have HH := hid hh
  have HS := hid hs
  have c0 : w.cell? ⟨g, 0, none⟩ = some (.slice a n c) := by rw [cell_of_row w g 0 _ _ _ hh]; rfl
  have c1 : w.cell? ⟨g, 1, none⟩ = some (.int .i64 (k : Int)) := by rw [cell_of_row w g 1 _ _ _ hh]; rfl
  have f1 : w.frozen? ⟨g, 1, none⟩ = false := by simp [World.frozen?, hh]
  clear hh hs
  by_cases hlt : k < n
  · obtain ⟨b, o, rfl, hbg, hc⟩ := HS.out (by omega)
    obtain ⟨z, hcx⟩ := hc k hlt
    obtain ⟨r, hrN, hmod⟩ := kit_ModN z N h1 h2
    have HMD := hid hmod
    have HNX := hid (fun q : Nat => KDice.next (w := w.drewN q) ⟨H0.out.1, H0.out.2.keep rfl⟩ HH.out hlt hn HS.out)
    have hne : b ≠ g := by omega
    have HCX := hid hcx
    have HRN := hid hrN
    clear hc hcx hmod hrN
    go_enter Tryz.func25, Tryz.ntmps25
    go_wp2
    go_quiet (fail)
    go_wp2
    have hDN := HNX.out nq
    have hRO : Roll w.heap.size g w ((w.drewN nq).setCell ⟨g, 1, none⟩ (.int .i64 ((k : Int) + 1))) := ((Roll.refl w.heap.size g w).drewN nq).setCell (p := ⟨g, 1, none⟩) rfl _
    have hSZ : ((w.drewN nq).setCell ⟨g, 1, none⟩ (.int .i64 ((k : Int) + 1))).heap.size = w.heap.size := by simp
    have e0 : ((w.drewN nq).setCell ⟨g, 1, none⟩ (.int .i64 ((k : Int) + 1))).cell? ⟨g, 0, none⟩ = some (.slice (some ⟨b, o, none⟩) n c) := by
      rw [World.cell?_setCell_other _ _ _ _ (by intro h; injection h with _ h2; omega)]; exact c0
    have e1 : ((w.drewN nq).setCell ⟨g, 1, none⟩ (.int .i64 ((k : Int) + 1))).cell? ⟨g, 1, none⟩ = some (.int .i64 ((k : Int) + 1)) := World.cell?_setCell_same _ _ _ c1
    have e2 : ((w.drewN nq).setCell ⟨g, 1, none⟩ (.int .i64 ((k : Int) + 1))).cell? ⟨b, o + k, none⟩ = some (.int .i64 z) := by
      rw [World.cell?_setCell_other _ _ _ _ (by intro h; injection h with h2; omega)]; exact HCX.out
    have HDN := hid hDN
    have HRO := hid hRO
    have HSZ := hid hSZ
    clear hDN hRO hSZ c0 c1 f1 HNX
    generalize (w.drewN nq).setCell ⟨g, 1, none⟩ (.int .i64 ((k : Int) + 1)) = W at *
    go_quiet ((go_at_call 13; exact Calls.quiet_of_same ((HMD.out _).mono (fun _ _ h => ⟨h.1, h.2.symm⟩))))
    go_wp2
    go_ret
    exact ⟨r, rfl, HRN.out, HDN.out.drewN _, HRO.out.drewN _, HSZ.out⟩
  · go_enter Tryz.func25, Tryz.ntmps25
    go_wp2
    go_quiet (fail)
    go_wp2
    go_ret
    exact ⟨0, rfl, by simp; omega, HD.out, (Roll.refl _ _ _).drewN _, rfl⟩
def KWord (w : World) (g : Nat) (l : List ByteArray) (e : Ending) (w' : World) : Prop :=
  ∃ s : ByteArray, e = .returned (.string s) ∧ s ∈ l ∧ KDice w' g ∧ Roll w.heap.size g w w' ∧ w'.heap.size = w.heap.size
set_option maxHeartbeats 1000000 in
theorem kit_Word (g b n : Nat) (l : List ByteArray) (w : World) (hd : KDice w g) (hb : BoxN w b 9 (l.map Value.string).toArray) (hne : b ≠ g) (hn : n = l.length) (h1 : 1 ≤ n) (h2 : n ≤ 100) :
    Calls Tryz.prog 35 #[.pointer (some ⟨g, 0, none⟩), .slice (some ⟨b, 0, none⟩) n n] w (KWord w g l) := by
  have HB := hid hb
  have HD := hid hd
  have HL := hid hn
  have hbl := hb.lt
  clear hb hd hn
  go_enter Tryz.func35, Tryz.ntmps35
  go_wp2_with fail
  with_reducible refine (kit_Next g _ _ HD.out (by omega) (by omega)).mono ?_
  rintro e w1 ⟨m, rfl, hm, hd1, hr1, hs1⟩
  have hmn : m < n := by omega
  have hml : m < l.length := by rw [← HL.out]; exact hmn
  have c1 : w1.cell? ⟨b, m, none⟩ = some (.string (l.getD m ⟨#[]⟩)) := (HB.out.roll hr1 hbl hne).cell m (by simp [List.getD, hml])
  have HM := hid (show l.getD m ⟨#[]⟩ ∈ l by rw [List.getD, List.getElem?_eq_getElem hml]; exact List.getElem_mem hml)
  have HD1 := hid hd1
  have HR1 := hid hr1
  have HS1 := hid hs1
  clear hd1 hr1 hs1 hml
  generalize l.getD m ⟨#[]⟩ = s at *
  go_wp2
  go_ret
  exact ⟨s, rfl, HM.out, HD1.out, HR1.out, HS1.out⟩
end Go.Proofs.YtaajpliifdlokaaGreatDoor

namespace Go.Proofs
open Go.Shelf
def Tryz.layItoaM_ren : Go.Shelf.Ren := ⟨fun | 171 => 148 | 243 => 204 | 246 => 234 | 283 => 255 | 284 => 256 | 285 => 257 | 286 => 258 | 129 => 145 | 317 => 270 | 318 => 271 | 319 => 272 | 320 => 273 | 337 => 285 | 338 => 286 | n => n, fun | 3 => 3 | 9 => 9 | 2 => 2 | 4 => 4 | 171 => 269 | 0 => 0 | 53 => 157 | 37 => 261 | 5 => 5 | 173 => 271 | 212 => 282 | 51 => 159 | 20 => 20 | 213 => 283 | 46 => 135 | 232 => 296 | 233 => 297 | n => n, fun | 17 => 4 | 18 => 5 | 19 => 6 | n => n⟩
end Go.Proofs

namespace Go.Proofs.YtaajpliifdlokaaGreatDoor
open Go.RowKit
theorem below_grow {w : World} (k : Nat) (os : Array Obj) : Below w.heap.size w (Sort.grow (w.drewN k) os) :=
  ⟨rfl, rfl, rfl, by simp [Sort.grow], fun i hi => Sort.heap_grow_old (w.drewN k) os hi⟩
def KCell (w : World) (g : Nat) (e : Ending) (w' : World) : Prop :=
  ∃ c : Cl, e = .returned (.agg #[.bool c.null, .string c.text]) ∧ CellOk c ∧ KDice w' g ∧ Roll w.heap.size g w w'
def cellTexts : List ByteArray := [⟨#[97]⟩, ⟨#[98]⟩, ⟨#[99]⟩, ⟨#[49]⟩, ⟨#[50]⟩, ⟨#[51]⟩, ⟨#[49, 48]⟩, ⟨#[120]⟩, ⟨#[45, 49, 46, 53]⟩, ⟨#[50]⟩]
def numTexts : List ByteArray := [⟨#[120]⟩, ⟨#[]⟩, ⟨#[49, 46, 50, 46, 51]⟩, ⟨#[49, 46, 53, 48]⟩]
end Go.Proofs.YtaajpliifdlokaaGreatDoor

namespace Go.Proofs.YtaajpliifdlokaaGreatDoor
open Go.RowKit
def kcolNames : List ByteArray := [⟨#[105, 100]⟩, ⟨#[110, 97, 109, 101]⟩, ⟨#[85, 110, 105, 116, 32, 80, 114, 105, 99, 101]⟩, ⟨#[99, 105, 116, 121]⟩, ⟨#[117, 110, 105, 116]⟩, ⟨#[112, 114, 105, 99, 101]⟩, ⟨#[105, 100, 50]⟩, ⟨#[]⟩]
def KColOk (n : Nat) (x : Co) : Prop := x.name ∈ kcolNames ∧ x.cells.length = n ∧ ∀ c ∈ x.cells, CellOk c
def KCol (w : World) (g n : Nat) (e : Ending) (w' : World) : Prop :=
  ∃ (x : Co) (v : Value), e = .returned (.agg #[.string x.name, v]) ∧ KColOk n x ∧ RdCl w' (News w w') v x.cells ∧ KDice w' g ∧ Roll w.heap.size g w w'
def abcdTexts : List ByteArray := [⟨#[97]⟩, ⟨#[98]⟩, ⟨#[99]⟩, ⟨#[100]⟩]
structure KColSt (w0 ws w : World) (g cb base n : Nat) (nm : ByteArray) (v : Value) (cs : List Cl) : Prop where
  box : BoxN w cb 55 #[.string nm, v]
  own : w.ownsRow base 84 2 v cs.length (flatK 2 cs.length (clF cs))
  ok : ∀ c ∈ cs, CellOk c
  dice : KDice w g
  roll : Roll w0.heap.size g w0 w
  low : base ≤ w.heap.size
  keep : ∀ k, k < base → k ≠ g → k ≠ cb → w.heap[k]? = ws.heap[k]?
section
variable {w0 ws w w' : World} {g cb base n : Nat} {nm : ByteArray} {v : Value} {cs : List Cl}
theorem KColSt.rolled (h : KColSt w0 ws w g cb base n nm v cs) (hr : Roll w.heap.size g w w') (hd : KDice w' g) (hg : g < base) (hne : cb ≠ g) : KColSt w0 ws w' g cb base n nm v cs :=
  ⟨h.box.roll hr h.box.lt hne, own_roll h.own hr (Nat.le_refl _) hg, h.ok, hd, h.roll.trans (hr.mono h.roll.size), Nat.le_trans h.low hr.size, fun k h1 h2 h3 => (hr.block k (Nat.lt_of_lt_of_le h1 h.low) h2).trans (h.keep k h1 h2 h3)⟩
theorem KColSt.alloc (h : KColSt w0 ws w g cb base n nm v cs) (hg : g < base) (hne : cb ≠ g) (O : Obj) : KColSt w0 ws (w.alloc O) g cb base n nm v cs :=
  h.rolled ((Roll.refl _ _ _).alloc (Nat.le_refl _) O) (h.dice.alloc O) hg hne
theorem KColSt.store (h : KColSt w0 ws w g cb base n nm v cs) {p : Addr} (hp : base ≤ p.block) (hv : v.ownBlock ≠ some p.block) (hcb : cb < base) (hc0 : w0.heap.size ≤ cb) (hg : g < base) (u : Value) : KColSt w0 ws (w.setCell p u) g cb base n nm v cs :=
  ⟨h.box.other (by omega) u, ownsRow_setCell_other h.own hv u, h.ok, h.dice.store (by omega) u, h.roll.trans ⟨rfl, rfl, rfl, by simp, fun k hk _ => Below.heap_setCell _ _ _ _ (by omega)⟩, by simpa using h.low, fun k h1 h2 h3 => (Below.heap_setCell _ _ _ _ (by omega)).trans (h.keep k h1 h2 h3)⟩
theorem KColSt.push (h : KColSt w0 ws w g cb base n nm v cs) {c : Cl} (hc : CellOk c) {p m cap : Nat} (hm : m = cs.length + 1)
    (hown : w'.ownsRow base 84 2 (.slice (some ⟨p, 0, none⟩) m cap) m (flatK 2 cs.length (clF cs) ++ [.bool c.null, .string c.text])) (hgr : w.grownBy w' v.ownBlock) (hcb : cb < base) (hc0 : w0.heap.size ≤ cb) (hg : g < cb) :
    KColSt w0 ws (w'.setCell ⟨cb, 1, none⟩ (.slice (some ⟨p, 0, none⟩) m cap)) g cb base n nm (.slice (some ⟨p, 0, none⟩) m cap) (cs ++ [c]) := by
  have hv : ∀ k, v.ownBlock = some k → base ≤ k := fun k hk => (h.own.lt k hk).1
  have hlo := h.low
  have hx : ∀ k, k < base → w'.heap[k]? = w.heap[k]? := fun k hk => hgr.block k (by omega) (fun e => by have := hv k e.symm; omega)
  subst hm
  refine ⟨(show BoxN w' cb _ _ from (hx cb hcb).trans h.box).set 1 _, ?_, ?_, (h.dice.keep fun k hk => hx k (by omega)).store hg _, ?_, by have := hgr.size; simp; omega, fun k h1 h2 h3 => (Below.heap_setCell _ _ _ _ h3).trans ((hx k h1).trans (h.keep k h1 h2 h3))⟩
  · rw [← cl_push, List.length_append, List.length_singleton]
    exact ownsRow_setCell_below hown hcb _
  · intro x hxm
    rcases List.mem_append.1 hxm with h1 | h1
    · exact h.ok x h1
    · rw [List.mem_singleton.1 h1]; exact hc
  · exact h.roll.trans ⟨hgr.os, hgr.tape, hgr.output, by have := hgr.size; simpa using this, fun k hk hkg => (Below.heap_setCell _ _ _ _ (by show k ≠ cb; omega)).trans (hx k (by omega))⟩
end
section
variable {w0 ws w w' : World} {g cb base n : Nat} {nm : ByteArray} {v : Value} {cs : List Cl}
theorem KColSt.below (h : KColSt w0 ws w g cb base n nm v cs) (hb : Below w.heap.size w w') (hg : g < base) (hne : cb ≠ g) : KColSt w0 ws w' g cb base n nm v cs :=
  h.rolled (Roll.of_below hb g) (h.dice.below hb h.dice.lt) hg hne
end
end Go.Proofs.YtaajpliifdlokaaGreatDoor

namespace Go.Proofs.YtaajpliifdlokaaGreatDoor
open Go.RowKit
def KTabOk (t : Ta) : Prop := TextOk 6 t.name ∧ t.cols.length ≤ 3 ∧ ∃ n, n ≤ 6 ∧ ∀ x ∈ t.cols, KColOk n x
def KTab (w : World) (g : Nat) (id : Int) (e : Ending) (w' : World) : Prop :=
  ∃ (t : Ta) (v : Value), e = .returned (.agg #[.int .i64 t.id, .string t.name, v]) ∧ t.id = id ∧ KTabOk t ∧ CoSt w' w.heap.size 55 v t.cols ∧ KDice w' g ∧ Roll w.heap.size g w w'
def ktabNames : List ByteArray := [⟨#[116]⟩, ⟨#[111, 114, 100, 101, 114, 115]⟩, ⟨#[]⟩]
structure KTabSt (w0 ws w : World) (g cb base n : Nat) (id : Int) (nm : ByteArray) (v : Value) (xs : List Co) : Prop where
  box : BoxN w cb 51 #[.int .i64 id, .string nm, v]
  own : CoSt w base 55 v xs
  ok : ∀ x ∈ xs, KColOk n x
  dice : KDice w g
  roll : Roll w0.heap.size g w0 w
  low : base ≤ w.heap.size
  keep : ∀ k, k < base → k ≠ g → k ≠ cb → w.heap[k]? = ws.heap[k]?
section
variable {w0 ws w w' : World} {g cb base n : Nat} {id : Int} {nm : ByteArray} {v : Value} {xs : List Co}
theorem KTabSt.rolled (h : KTabSt w0 ws w g cb base n id nm v xs) (hr : Roll w.heap.size g w w') (hd : KDice w' g) (hg : g < base) (hne : cb ≠ g) : KTabSt w0 ws w' g cb base n id nm v xs :=
  ⟨h.box.roll hr h.box.lt hne, h.own.roll hr (Nat.le_refl _) hg, h.ok, hd, h.roll.trans (hr.mono h.roll.size), Nat.le_trans h.low hr.size, fun k h1 h2 h3 => (hr.block k (Nat.lt_of_lt_of_le h1 h.low) h2).trans (h.keep k h1 h2 h3)⟩
theorem KTabSt.alloc (h : KTabSt w0 ws w g cb base n id nm v xs) (hg : g < base) (hne : cb ≠ g) (O : Obj) : KTabSt w0 ws (w.alloc O) g cb base n id nm v xs :=
  h.rolled ((Roll.refl _ _ _).alloc (Nat.le_refl _) O) (h.dice.alloc O) hg hne
theorem KTabSt.drew (h : KTabSt w0 ws w g cb base n id nm v xs) : KTabSt w0 ws w.drew g cb base n id nm v xs :=
  ⟨h.box, h.own.drewN 1, h.ok, h.dice, h.roll.drewN 1, h.low, h.keep⟩
theorem KTabSt.push (h : KTabSt w0 ws w g cb base n id nm v xs) {x : Co} (hx : KColOk n x) {L : List Value} {u : Value} {p m cap : Nat} (hm : m = xs.length + 1) (hL : w.ownsRow base 55 2 v xs.length L)
    (hown : w'.ownsRow base 55 2 (.slice (some ⟨p, 0, none⟩) m cap) m (L ++ [.string x.name, u])) (hgr : w.grownBy w' v.ownBlock) (hat : v.ownBlock = some p ∨ p = w.heap.size)
    (hnew : RdCl w (Own w base v) u x.cells) (hcb : cb < base) (hc0 : w0.heap.size ≤ cb) (hg : g < cb) :
    KTabSt w0 ws (w'.setCell ⟨cb, 2, none⟩ (.slice (some ⟨p, 0, none⟩) m cap)) g cb base n id nm (.slice (some ⟨p, 0, none⟩) m cap) (xs ++ [x]) := by
  have hv : ∀ k, v.ownBlock = some k → base ≤ k := fun k hk => (hL.lt k hk).1
  have hlo := h.low
  have hx' : ∀ k, k < base → w'.heap[k]? = w.heap[k]? := fun k hk => hgr.block k (by omega) (fun e => by have := hv k e.symm; omega)
  refine ⟨(show BoxN w' cb _ _ from (hx' cb hcb).trans h.box).set 2 _, (h.own.push hL hm hown hgr hat hnew).setCell hcb _, ?_, (h.dice.keep fun k hk => hx' k (by omega)).store hg _, ?_, by have := hgr.size; simp; omega, fun k h1 h2 h3 => (Below.heap_setCell _ _ _ _ h3).trans ((hx' k h1).trans (h.keep k h1 h2 h3))⟩
  · intro y hy
    rcases List.mem_append.1 hy with h1 | h1
    · exact h.ok y h1
    · rw [List.mem_singleton.1 h1]; exact hx
  · exact h.roll.trans ⟨hgr.os, hgr.tape, hgr.output, by have := hgr.size; simpa using this, fun k hk hkg => (Below.heap_setCell _ _ _ _ (by show k ≠ cb; omega)).trans (hx' k (by omega))⟩
end
end Go.Proofs.YtaajpliifdlokaaGreatDoor

namespace Go.Proofs.YtaajpliifdlokaaGreatDoor
open Go.RowKit
def sixTexts : List ByteArray := [⟨#[97]⟩, ⟨#[98]⟩, ⟨#[49]⟩, ⟨#[50]⟩, ⟨#[107, 48]⟩, ⟨#[]⟩]
def Few3 (L : Nat) (o : Po) : Prop := o.cols.length ≤ 3 ∧ (o.kind = 3 → 0 < L → 0 < o.cols.length)
def KOp (w : World) (g L : Nat) (e : Ending) (w' : World) : Prop :=
  ∃ (o : Po) (v : Value), e = .returned (o.val v) ∧ o.text.size ≤ 1024 ∧ Few3 L o ∧ Rd w' w'.heap.size v o.cols.length (intF o.cols) ∧ KDice w' g ∧ Roll w.heap.size g w w'
structure OpSt (w0 w : World) (g : Nat) (kind col : Int) (text : ByteArray) (v : Value) : Prop where
  res : BoxN w (w0.heap.size + 1) 122 #[.int .i64 0, .int .i64 0, .string ⟨#[]⟩, .slice none 0 0]
  box : BoxN w (w0.heap.size + 2) 122 #[.int .i64 kind, .int .i64 col, .string text, v]
  dice : KDice w g
  roll : Roll w0.heap.size g w0 w
section
variable {w0 w w' : World} {g : Nat} {kind col : Int} {text : ByteArray} {v : Value}
theorem OpSt.rolled (h : OpSt w0 w g kind col text v) (hr : Roll w.heap.size g w w') (hd : KDice w' g) (hg : g < w0.heap.size) : OpSt w0 w' g kind col text v :=
  ⟨h.res.roll hr h.res.lt (by omega), h.box.roll hr h.box.lt (by omega), hd, h.roll.trans (hr.mono h.roll.size)⟩
theorem OpSt.alloc (h : OpSt w0 w g kind col text v) (hg : g < w0.heap.size) (O : Obj) : OpSt w0 (w.alloc O) g kind col text v :=
  h.rolled ((Roll.refl _ _ _).alloc (Nat.le_refl _) O) (h.dice.alloc O) hg
theorem OpSt.drew (h : OpSt w0 w g kind col text v) : OpSt w0 w.drew g kind col text v := ⟨h.res, h.box, h.dice.drew, h.roll.drewN 1⟩
theorem BoxN.drew {w : World} {b : Nat} {t : TypeId} {vs : Array Value} (h : BoxN w b t vs) : BoxN w.drew b t vs := h
theorem OpSt.put (h : OpSt w0 w g kind col text v) (hg : g < w0.heap.size) (i : Nat) (u : Value) {k' c' : Int} {t' : ByteArray} {v' : Value} (e : (#[.int .i64 kind, .int .i64 col, .string text, v] : Array Value).setIfInBounds i u = #[.int .i64 k', .int .i64 c', .string t', v']) :
    OpSt w0 (w.setCell ⟨w0.heap.size + 2, i, none⟩ u) g k' c' t' v' := by
  have hb := h.box.set i u
  rw [e] at hb
  exact ⟨h.res.other (by show w0.heap.size + 2 ≠ w0.heap.size + 1; omega) _, hb, h.dice.store (by show g < w0.heap.size + 2; omega) _, h.roll.trans ⟨rfl, rfl, rfl, by simp, fun k hk _ => Below.heap_setCell _ _ _ _ (by show k ≠ w0.heap.size + 2; omega)⟩⟩
end
structure KsSt (w0 w : World) (g : Nat) (v : Value) (ks : List Nat) : Prop where
  st : OpSt w0 w g 3 0 ⟨#[]⟩ v
  own : w.ownsRow (w0.heap.size + 3) 3 1 v ks.length (iv ks)
  low : w0.heap.size + 3 ≤ w.heap.size
section
variable {w0 w w' : World} {g : Nat} {v : Value} {ks : List Nat}
theorem KsSt.rolled (h : KsSt w0 w g v ks) (hr : Roll w.heap.size g w w') (hd : KDice w' g) (hg : g < w0.heap.size) : KsSt w0 w' g v ks :=
  ⟨h.st.rolled hr hd hg, own_roll h.own hr (Nat.le_refl _) (by omega), Nat.le_trans h.low hr.size⟩
theorem KsSt.drew (h : KsSt w0 w g v ks) : KsSt w0 w.drew g v ks := ⟨⟨h.st.res, h.st.box, h.st.dice.drew, h.st.roll.drewN 1⟩, own_drewN h.own 1, h.low⟩
theorem KsSt.alloc (h : KsSt w0 w g v ks) (hg : g < w0.heap.size) (O : Obj) : KsSt w0 (w.alloc O) g v ks := h.rolled ((Roll.refl _ _ _).alloc (Nat.le_refl _) O) (h.st.dice.alloc O) hg
theorem KsSt.push (h : KsSt w0 w g v ks) (hg : g < w0.heap.size) {r p m cap : Nat} (hm : m = ks.length + 1) (hown : w'.ownsRow (w0.heap.size + 3) 3 1 (.slice (some ⟨p, 0, none⟩) m cap) m (iv ks ++ [.int .i64 (r : Int)])) (hgr : w.grownBy w' v.ownBlock) :
    KsSt w0 (w'.setCell ⟨w0.heap.size + 2, 3, none⟩ (.slice (some ⟨p, 0, none⟩) m cap)) g (.slice (some ⟨p, 0, none⟩) m cap) (ks ++ [r]) := by
  have hv : ∀ k, v.ownBlock = some k → w0.heap.size + 3 ≤ k := fun k hk => (h.own.lt k hk).1
  have hlo := h.low
  have hx : ∀ k, k < w0.heap.size + 3 → w'.heap[k]? = w.heap[k]? := fun k hk => hgr.block k (by omega) (fun e => by have := hv k e.symm; omega)
  have h1 : OpSt w0 w' g 3 0 ⟨#[]⟩ v := ⟨(hx _ (by omega)).trans h.st.res, (hx _ (by omega)).trans h.st.box, h.st.dice.keep fun k hk => hx k (by omega), h.st.roll.trans ⟨hgr.os, hgr.tape, hgr.output, hgr.size, fun k hk _ => hx k (by omega)⟩⟩
  subst hm
  refine ⟨h1.put hg 3 _ rfl, ?_, by have := hgr.size; simp; omega⟩
  rw [List.length_append, List.length_singleton, show iv (ks ++ [r]) = iv ks ++ [.int .i64 (r : Int)] by simp [iv]]
  exact ownsRow_setCell_below hown (by show w0.heap.size + 2 < w0.heap.size + 3; omega) _
end
end Go.Proofs.YtaajpliifdlokaaGreatDoor
