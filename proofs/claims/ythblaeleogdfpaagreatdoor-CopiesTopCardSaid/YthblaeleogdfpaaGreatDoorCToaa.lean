/- DERIVED: THE SHELF's CONTRACTS AT THIS DUMP, IN PLAIN WORDS (tools/lay-plain.mjs out of 'YthblaeleogdfpaaGreatDoorShCL.lean', which tools/lay-shelf.mjs wrote): THE SAME DECLARATIONS UNDER THE SAME NAMES: 'import', 'namespace', 'open', 'def', 'theorem' AND NOTHING ELSE: no command of the shelf's: FOR A HAND-IN. Each laying: the table of numbers ('.._ren') and one theorem, a field a fact of the dump's own or the kernel's comparison; each contract: ONE APPLICATION. Words for memory: a slice that is read, what a call keeps. No program in sight. Plain: texts in order, sets of texts, insertion. No program in sight. Words for new texts. No program in sight. Words for dice: the memory that a roll turns. No program in sight. 'append' onto a row that the call owns, or onto its beginning, from a slice of whatever shape: the result written out. No program in sight. -/
import Derived.Shelf.SlicesG.Clone
import Derived.Shelf.SlicesG.CompactS
import Derived.Shelf.SlicesG.Equal
import Derived.Shelf.SortM.Plain
import Derived.Shelf.SortM.SortNone
import Derived.Shelf.Strconv.Itoa3
import Derived.Shelf.SlicesQ.IndexFunc
import Derived.Ground.SlgnProg
import Derived.Ground.SlgmProg
import Derived.Test.YthblaeleogdfpaaGreatDoorProg
import Derived.WalkKit
import Derived.WalkSpells
import Derived.WalkLawsBesides
import Derived.WalkSmall
import Derived.BigRegion
import Derived.BigQuiet
import Derived.Deep.QuietTactic
import Derived.Deep.RegionHeld3
import Derived.Deep.LoopGhost
import Derived.Deep.OwnRows
import Derived.Lib.OthersKept
import Derived.Handy
import Derived.Lib.Strings
import Derived.Deep.AppendLies
import Derived.Deep.RegionLaw
set_option linter.unusedVariables false
set_option linter.unusedSimpArgs false
namespace Go.Proofs
open Go.Shelf
def Tryz.sortC_ren : Go.Shelf.Ren := ⟨fun | 6 => 47 | 8 => 96 | 9 => 95 | 19 => 150 | 20 => 151 | 21 => 141 | 22 => 142 | 23 => 143 | 24 => 144 | 25 => 145 | 26 => 146 | 27 => 147 | 28 => 148 | 29 => 149 | 36 => 199 | 31 => 200 | 32 => 201 | 37 => 202 | 38 => 203 | 39 => 204 | 41 => 262 | n => n, fun | 27 => 37 | 29 => 9 | 3 => 3 | 32 => 143 | 26 => 37 | 0 => 0 | 44 => 157 | 46 => 194 | 4 => 4 | 36 => 186 | 35 => 185 | 41 => 172 | 5 => 5 | 9 => 9 | 53 => 221 | 57 => 225 | 63 => 270 | 64 => 271 | n => n, fun | n => n⟩
theorem Tryz.sortC : Go.Proofs.SlLaysM.n6 Tryz.prog Tryz.sortC_ren := {
 mixed := by kernel_rfl
 f6 := ⟨Tryz.f47.name, by decide, Tryz.func47.trans (congrArg some (by kernel_rfl))⟩
 f8 := Tryz.func96.trans (congrArg some (by kernel_rfl))
 f9 := ⟨Tryz.f95.name, by decide, Tryz.func95.trans (congrArg some (by kernel_rfl))⟩
 f19 := Tryz.func150.trans (congrArg some (by kernel_rfl))
 f20 := Tryz.func151.trans (congrArg some (by kernel_rfl))
 f21 := ⟨Tryz.f141.name, by decide, Tryz.func141.trans (congrArg some (by kernel_rfl))⟩
 f22 := ⟨Tryz.f142.name, by decide, Tryz.func142.trans (congrArg some (by kernel_rfl))⟩
 f23 := ⟨Tryz.f143.name, by decide, Tryz.func143.trans (congrArg some (by kernel_rfl))⟩
 f24 := ⟨Tryz.f144.name, by decide, Tryz.func144.trans (congrArg some (by kernel_rfl))⟩
 f25 := ⟨Tryz.f145.name, by decide, Tryz.func145.trans (congrArg some (by kernel_rfl))⟩
 f26 := ⟨Tryz.f146.name, by decide, Tryz.func146.trans (congrArg some (by kernel_rfl))⟩
 f27 := ⟨Tryz.f147.name, by decide, Tryz.func147.trans (congrArg some (by kernel_rfl))⟩
 f28 := ⟨Tryz.f148.name, by decide, Tryz.func148.trans (congrArg some (by kernel_rfl))⟩
 f29 := ⟨Tryz.f149.name, by decide, Tryz.func149.trans (congrArg some (by kernel_rfl))⟩
 f31 := Tryz.func200.trans (congrArg some (by kernel_rfl))
 f32 := Tryz.func201.trans (congrArg some (by kernel_rfl))
 f36 := ⟨Tryz.f199.name, by decide, Tryz.func199.trans (congrArg some (by kernel_rfl))⟩
 f37 := ⟨Tryz.f202.name, by decide, Tryz.func202.trans (congrArg some (by kernel_rfl))⟩
 f38 := ⟨Tryz.f203.name, by decide, Tryz.func203.trans (congrArg some (by kernel_rfl))⟩
 f39 := ⟨Tryz.f204.name, by decide, Tryz.func204.trans (congrArg some (by kernel_rfl))⟩
 f41 := ⟨Tryz.f262.name, by decide, Tryz.func262.trans (congrArg some (by kernel_rfl))⟩
 t0 := Tryz.underlying0
 a0 := Tryz.isAgg0
 z0 := Tryz.sizeOf0
 v0 := Tryz.zeroValue0
 t3 := Tryz.underlying3
 a3 := Tryz.isAgg3
 z3 := Tryz.sizeOf3
 v3 := Tryz.zeroValue3
 t4 := Tryz.underlying4
 a4 := Tryz.isAgg4
 z4 := Tryz.sizeOf4
 v4 := Tryz.zeroValue4
 t5 := Tryz.underlying5
 a5 := Tryz.isAgg5
 z5 := Tryz.sizeOf5
 v5 := Tryz.zeroValue5
 t9 := Tryz.underlying9
 a9 := Tryz.isAgg9
 z9 := Tryz.sizeOf9
 v9 := Tryz.zeroValue9
 t26 := Tryz.underlying37
 a26 := Tryz.isAgg37
 z26 := Tryz.sizeOf37
 v26 := Tryz.zeroValue37
 t27 := Tryz.underlying37
 a27 := Tryz.isAgg37
 z27 := Tryz.sizeOf37
 v27 := Tryz.zeroValue37
 t29 := Tryz.underlying9
 a29 := Tryz.isAgg9
 z29 := Tryz.sizeOf9
 v29 := Tryz.zeroValue9
 t32 := Tryz.underlying143
 a32 := Tryz.isAgg143
 z32 := Tryz.sizeOf143
 v32 := Tryz.zeroValue143
 t35 := Tryz.underlying185
 a35 := Tryz.isAgg185
 z35 := Tryz.sizeOf185
 v35 := Tryz.zeroValue185
 t36 := Tryz.underlying186
 a36 := Tryz.isAgg186
 z36 := Tryz.sizeOf186
 v36 := Tryz.zeroValue186
 t41 := Tryz.underlying172
 a41 := Tryz.isAgg172
 z41 := Tryz.sizeOf172
 v41 := Tryz.zeroValue172
 t44 := Tryz.underlying157
 a44 := Tryz.isAgg157
 z44 := Tryz.sizeOf157
 v44 := Tryz.zeroValue157
 t46 := Tryz.underlying194
 a46 := Tryz.isAgg194
 z46 := Tryz.sizeOf194
 v46 := Tryz.zeroValue194
 t53 := Tryz.underlying221
 a53 := Tryz.isAgg221
 z53 := Tryz.sizeOf221
 v53 := Tryz.zeroValue221
 t57 := Tryz.underlying225
 a57 := Tryz.isAgg225
 z57 := Tryz.sizeOf225
 v57 := Tryz.zeroValue225
 t63 := Tryz.underlying270
 a63 := Tryz.isAgg270
 z63 := Tryz.sizeOf270
 v63 := Tryz.zeroValue270
 t64 := Tryz.underlying271
 a64 := Tryz.isAgg271
 z64 := Tryz.sizeOf271
 v64 := Tryz.zeroValue271 }
def Tryz.cloneC_ren : Go.Shelf.Ren := ⟨fun | 42 => 49 | n => n, fun | 25 => 37 | 26 => 9 | 4 => 4 | n => n, fun | n => n⟩
theorem Tryz.cloneC : Go.Proofs.SlLaysN.n42 Tryz.prog Tryz.cloneC_ren := {
 mixed := by kernel_rfl
 f42 := ⟨Tryz.f49.name, by decide, Tryz.func49.trans (congrArg some (by kernel_rfl))⟩
 t4 := Tryz.underlying4
 a4 := Tryz.isAgg4
 z4 := Tryz.sizeOf4
 v4 := Tryz.zeroValue4
 t25 := Tryz.underlying37
 a25 := Tryz.isAgg37
 z25 := Tryz.sizeOf37
 v25 := Tryz.zeroValue37
 t26 := Tryz.underlying9
 a26 := Tryz.isAgg9
 z26 := Tryz.sizeOf9
 v26 := Tryz.zeroValue9
 i26 := by kernel_rfl }
def Tryz.compactC_ren : Go.Shelf.Ren := ⟨fun | 44 => 48 | n => n, fun | 25 => 37 | 26 => 9 | 3 => 3 | 4 => 4 | 0 => 0 | n => n, fun | n => n⟩
theorem Tryz.compactC : Go.Proofs.SlLaysN.n44 Tryz.prog Tryz.compactC_ren := {
 mixed := by kernel_rfl
 f44 := ⟨Tryz.f48.name, by decide, Tryz.func48.trans (congrArg some (by kernel_rfl))⟩
 t0 := Tryz.underlying0
 a0 := Tryz.isAgg0
 z0 := Tryz.sizeOf0
 v0 := Tryz.zeroValue0
 t3 := Tryz.underlying3
 a3 := Tryz.isAgg3
 z3 := Tryz.sizeOf3
 v3 := Tryz.zeroValue3
 t4 := Tryz.underlying4
 a4 := Tryz.isAgg4
 z4 := Tryz.sizeOf4
 v4 := Tryz.zeroValue4
 t25 := Tryz.underlying37
 a25 := Tryz.isAgg37
 z25 := Tryz.sizeOf37
 v25 := Tryz.zeroValue37
 t26 := Tryz.underlying9
 a26 := Tryz.isAgg9
 z26 := Tryz.sizeOf9
 v26 := Tryz.zeroValue9
 i26 := by kernel_rfl }
def Tryz.equalC_ren : Go.Shelf.Ren := ⟨fun | 34 => 50 | n => n, fun | 25 => 37 | 26 => 9 | 4 => 4 | 3 => 3 | 0 => 0 | n => n, fun | n => n⟩
theorem Tryz.equalC : Go.Proofs.SlLaysN.n34 Tryz.prog Tryz.equalC_ren := {
 mixed := by kernel_rfl
 f34 := ⟨Tryz.f50.name, by decide, Tryz.func50.trans (congrArg some (by kernel_rfl))⟩
 t0 := Tryz.underlying0
 a0 := Tryz.isAgg0
 z0 := Tryz.sizeOf0
 v0 := Tryz.zeroValue0
 t3 := Tryz.underlying3
 a3 := Tryz.isAgg3
 z3 := Tryz.sizeOf3
 v3 := Tryz.zeroValue3
 t4 := Tryz.underlying4
 a4 := Tryz.isAgg4
 z4 := Tryz.sizeOf4
 v4 := Tryz.zeroValue4
 t25 := Tryz.underlying37
 a25 := Tryz.isAgg37
 z25 := Tryz.sizeOf37
 v25 := Tryz.zeroValue37
 t26 := Tryz.underlying9
 a26 := Tryz.isAgg9
 z26 := Tryz.sizeOf9
 v26 := Tryz.zeroValue9 }
end Go.Proofs

namespace Go.Proofs.YthblaeleogdfpaaGreatDoor
open Go.RowKit
theorem hid {p : Prop} (h : p) : Hid p := h
def Quiet (w : World) (v : Value) (e : Ending) (w' : World) : Prop := e = .returned v ∧ ∃ k, w' = w.drewN k
def Ret (w : World) (v : Value) (e : Ending) (w' : World) : Prop := e = .returned v ∧ Below w.heap.size w w'
theorem below_drewN {B n : Nat} {a w : World} (h : Below B a w) : Below B a (w.drewN n) := ⟨h.os, h.tape, h.output, h.size, h.block⟩
theorem Quiet.ret {w : World} {v : Value} {e : Ending} {w' : World} (h : Quiet w v e w') : Ret w v e w' := by
 obtain ⟨he, k, rfl⟩ := h
 exact ⟨he, below_drewN (Below.refl _ _)⟩
theorem bcell {B : Nat} {W w1 : World} (hb : Below B W w1) : (∀ b o, b < B → w1.cell? ⟨b, o, none⟩ = W.cell? ⟨b, o, none⟩) ∧ (∀ b o, b < B → w1.frozen? ⟨b, o, none⟩ = W.frozen? ⟨b, o, none⟩) :=
 ⟨fun b o h => hb.cell (p := ⟨b, o, none⟩) h, fun b o h => hb.frozen (p := ⟨b, o, none⟩) h⟩
theorem frozen_later {w wx : World} {a : Addr} {v : Value} (hb : Below w.heap.size w wx) (hc : w.cell? a = some v) (h : w.frozen? a = false) : wx.frozen? a = false :=
 (hb.frozen (World.block_lt_of_cell? _ _ hc)).trans h
theorem ret_int {k : IntKind} {a b : Int} (h : a = b) : Ending.returned (.int k a) = .returned (.int k b) := by rw [h]
theorem ret_bool {a b : Bool} (h : a = b) : Ending.returned (.bool a) = .returned (.bool b) := by rw [h]
def Rd (w : World) (B : Nat) (v : Value) (n : Nat) (f : Nat → Value) : Prop :=
  ∃ a c, v = .slice a n c ∧ n ≤ c ∧ c ≤ maxLen ∧ (0 < n → ∃ b o, a = some ⟨b, o, none⟩ ∧ b < B ∧ ∀ i, i < n → w.cell? ⟨b, o + i, none⟩ = some (f i))
def Rd2 (w : World) (B : Nat) (v : Value) (n : Nat) (f g : Nat → Value) : Prop :=
  ∃ a c, v = .slice a n c ∧ n ≤ c ∧ c ≤ maxLen ∧ (0 < n → ∃ b o, a = some ⟨b, o, none⟩ ∧ b < B ∧ ∀ i, i < n → w.cell? ⟨b, o + i * 2, none⟩ = some (f i) ∧ w.cell? ⟨b, o + i * 2 + 1, none⟩ = some (g i))
section
variable {w w' : World} {B B' n : Nat} {v : Value} {f g : Nat → Value}
theorem Rd.keep (h : Rd w B v n f) (hk : ∀ p : Addr, p.block < B → w'.cell? p = w.cell? p) : Rd w' B v n f := by
 obtain ⟨a, c, e, h1, h2, h3⟩ := h
 refine ⟨a, c, e, h1, h2, fun hp => ?_⟩
 obtain ⟨b, o, e1, h5, h6⟩ := h3 hp
 exact ⟨b, o, e1, h5, fun i hi => (hk _ h5).trans (h6 i hi)⟩
theorem Rd.more (h : Rd w B v n f) (hB : B ≤ B') : Rd w B' v n f := by
 obtain ⟨a, c, e, h1, h2, h3⟩ := h
 refine ⟨a, c, e, h1, h2, fun hp => ?_⟩
 obtain ⟨b, o, e1, h5, h6⟩ := h3 hp
 exact ⟨b, o, e1, by omega, h6⟩
theorem Rd.below (h : Rd w B v n f) {C : Nat} (hb : Below C w w') (hC : B ≤ C) : Rd w' B v n f := h.keep fun _ hp => hb.cell (by omega)
theorem Rd.drewN (h : Rd w B v n f) (k : Nat) : Rd (w.drewN k) B v n f := h
theorem Rd.nil : Rd w B (.slice none 0 0) 0 f := ⟨none, 0, rfl, Nat.le_refl _, by simp [maxLen], fun h => absurd h (by omega)⟩
theorem Rd.congr (h : Rd w B v n f) (e : ∀ i, i < n → f i = g i) : Rd w B v n g := by
 obtain ⟨a, c, e1, h1, h2, h3⟩ := h
 refine ⟨a, c, e1, h1, h2, fun hp => ?_⟩
 obtain ⟨b, o, e2, h5, h6⟩ := h3 hp
 exact ⟨b, o, e2, h5, fun i hi => by rw [← e i hi]; exact h6 i hi⟩
theorem Rd2.keep (h : Rd2 w B v n f g) (hk : ∀ p : Addr, p.block < B → w'.cell? p = w.cell? p) : Rd2 w' B v n f g := by
 obtain ⟨a, c, e, h1, h2, h3⟩ := h
 refine ⟨a, c, e, h1, h2, fun hp => ?_⟩
 obtain ⟨b, o, e1, h5, h6⟩ := h3 hp
 exact ⟨b, o, e1, h5, fun i hi => ⟨(hk _ h5).trans (h6 i hi).1, (hk _ h5).trans (h6 i hi).2⟩⟩
theorem Rd2.more (h : Rd2 w B v n f g) (hB : B ≤ B') : Rd2 w B' v n f g := by
 obtain ⟨a, c, e, h1, h2, h3⟩ := h
 refine ⟨a, c, e, h1, h2, fun hp => ?_⟩
 obtain ⟨b, o, e1, h5, h6⟩ := h3 hp
 exact ⟨b, o, e1, by omega, h6⟩
theorem Rd2.below (h : Rd2 w B v n f g) {C : Nat} (hb : Below C w w') (hC : B ≤ C) : Rd2 w' B v n f g := h.keep fun _ hp => hb.cell (by omega)
theorem Rd2.nil : Rd2 w B (.slice none 0 0) 0 f g := ⟨none, 0, rfl, Nat.le_refl _, by simp [maxLen], fun h => absurd h (by omega)⟩
end
theorem rd_of_owns {w : World} {base : Nat} {e : TypeId} {v : Value} {n : Nat} {xs : List Value} (h : w.ownsRow base e 1 v n xs) (f : Nat → Value) (hf : ∀ i, i < n → xs[i]? = some (f i)) :
  Rd w w.heap.size v n f := by
 obtain ⟨hl, h⟩ := h
 rcases h with ⟨rfl, rfl⟩ | ⟨g, cap, cur, rfl, hb, hg, hn, hm, hs, ht⟩
 ·exact Rd.nil
 ·refine ⟨_, _, rfl, hn, hm, fun hp => ⟨g, 0, rfl, (Array.getElem?_eq_some_iff.1 hg).1, fun i hi => ?_⟩⟩
  rw [Nat.zero_add, cell_of_row w g i cur e (0, 0) hg]
  have h1 := hf i hi
  rw [← ht, List.getElem?_take, if_pos (by omega)] at h1
  simpa using h1
theorem push_below {B e size n : Nat} {w wr w' : World} {o : Value} {O : Obj} {xs : List Value} (h : Below B w wr) (hB : B ≤ wr.heap.size) (hown : wr.ownsRow B e size o n xs)
  (hg : (wr.alloc O).grownBy w' o.ownBlock) : Below B w w' :=
 (h.alloc hB O).grown hg (by simp; omega) (fun k hk => (hown.lt k hk).1)
theorem own_slice {w : World} {base : Nat} {e : TypeId} {size : Nat} {v : Value} {n : Nat} {xs : List Value} (h : w.ownsRow base e size v n xs) : ∃ a c, v = .slice a n c := by
 rcases h.2 with ⟨rfl, rfl⟩ | ⟨g, cap, cur, rfl, _⟩
 ·exact ⟨_, _, rfl⟩
 ·exact ⟨_, _, rfl⟩
def strF (xs : List ByteArray) (i : Nat) : Value := .string (xs.getD i ⟨#[]⟩)
def intF (xs : List Int) (i : Nat) : Value := .int .i64 (xs.getD i 0)
def natF (xs : List Nat) (i : Nat) : Value := .int .i64 ((xs.getD i 0 : Nat) : Int)
end Go.Proofs.YthblaeleogdfpaaGreatDoor

namespace Go.Proofs.YthblaeleogdfpaaGreatDoor
open Go.RowKit
def sl (a b : ByteArray) : Bool := Op.bytesLess a.toList b.toList
theorem bl_irrefl : ∀ x : List UInt8, Op.bytesLess x x = false
 | [] => rfl
 | a :: x => by
  rw [Op.bytesLess, bl_irrefl x]
  have : ¬ a < a := UInt8.lt_irrefl a
  simp [this]
theorem bl_trans : ∀ x y z : List UInt8, Op.bytesLess x y = true → Op.bytesLess y z = true → Op.bytesLess x z = true
 | _, [], _, h, _ => by cases ‹List UInt8› <;> simp [Op.bytesLess] at h
 | _, _ :: _, [], _, h => by simp [Op.bytesLess] at h
 | [], _ :: _, _ :: _, _, _ => rfl
 | a :: x, b :: y, c :: z, h1, h2 => by
  have ih := bl_trans x y z
  simp only [Op.bytesLess, Bool.or_eq_true, Bool.and_eq_true, decide_eq_true_eq, beq_iff_eq] at *
  rcases h1 with h1 | ⟨rfl, h1⟩
  ·rcases h2 with h2 | ⟨rfl, h2⟩
   ·exact .inl (UInt8.lt_trans h1 h2)
   ·exact .inl h1
  ·rcases h2 with h2 | ⟨rfl, h2⟩
   ·exact .inl h2
   ·exact .inr ⟨rfl, ih h1 h2⟩
theorem bl_total : ∀ x y : List UInt8, Op.bytesLess x y = true ∨ x = y ∨ Op.bytesLess y x = true
 | [], [] => .inr (.inl rfl)
 | [], _ :: _ => .inl rfl
 | _ :: _, [] => .inr (.inr rfl)
 | a :: x, b :: y => by
  have ih := bl_total x y
  simp only [Op.bytesLess, Bool.or_eq_true, Bool.and_eq_true, decide_eq_true_eq, beq_iff_eq]
  by_cases h : a < b
  ·exact .inl (.inl h)
  ·by_cases h2 : b < a
   ·exact .inr (.inr (.inl h2))
   ·have e : a = b := by
     apply UInt8.toNat_inj.1
     have h3 : ¬ a.toNat < b.toNat := fun hh => h (UInt8.lt_iff_toNat_lt.2 hh)
     have h4 : ¬ b.toNat < a.toNat := fun hh => h2 (UInt8.lt_iff_toNat_lt.2 hh)
     omega
    subst e
    rcases ih with ih | rfl | ih
    ·exact .inl (.inr ⟨rfl, ih⟩)
    ·exact .inr (.inl rfl)
    ·exact .inr (.inr (.inr ⟨rfl, ih⟩))
theorem bytes_ext {a b : ByteArray} (h : a.toList = b.toList) : a = b := by
 have h1 : a.data.toList = b.data.toList := by rw [← Lib.toList_data, ← Lib.toList_data]; exact h
 cases a; cases b
 simp only [ByteArray.mk.injEq]
 exact Array.toList_inj.1 h1
theorem sl_irrefl (a : ByteArray) : sl a a = false := bl_irrefl _
theorem sl_trans {a b c : ByteArray} (h : sl a b = true) (h' : sl b c = true) : sl a c = true := bl_trans _ _ _ h h'
theorem sl_total (a b : ByteArray) : sl a b = true ∨ a = b ∨ sl b a = true := by
 rcases bl_total a.toList b.toList with h | h | h
 ·exact .inl h
 ·exact .inr (.inl (bytes_ext h))
 ·exact .inr (.inr h)
def isSet : List ByteArray → Bool
  | a :: b :: l => sl a b && isSet (b :: l)
  | _ => true
def before (s : ByteArray) : List ByteArray → Nat
  | [] => 0
  | a :: l => if sl a s then before s l + 1 else 0
def put1 (xs : List ByteArray) (s : ByteArray) : List ByteArray :=
  let k := before s xs
  if k = xs.length ∨ xs.getD k ⟨#[]⟩ ≠ s then xs.take k ++ s :: xs.drop k else xs
def setOfL (l : List ByteArray) : List ByteArray := l.foldl put1 []
theorem before_le (s : ByteArray) : ∀ l, before s l ≤ l.length
 | [] => by simp [before]
 | a :: l => by
  have := before_le s l
  unfold before
  split <;> simp <;> omega
theorem before_lt (s : ByteArray) : ∀ l i, i < before s l → sl (l.getD i ⟨#[]⟩) s = true
 | [], i, h => by simp [before] at h
 | a :: l, i, h => by
  unfold before at h
  split at h
  ·rename_i ha
   cases i with
   | zero => simpa using ha
   | succ i => simpa using before_lt s l i (by omega)
  ·omega
theorem before_at (s : ByteArray) : ∀ l, before s l < l.length → sl (l.getD (before s l) ⟨#[]⟩) s = false
 | [], h => by simp at h
 | a :: l, h => by
  unfold before at h ⊢
  split
  ·rename_i ha
   rw [if_pos ha] at h
   simpa using before_at s l (by simpa using h)
  ·rename_i ha
   simpa using ha
theorem put1_length (xs : List ByteArray) (s : ByteArray) : (put1 xs s).length ≤ xs.length + 1 := by
 have := before_le s xs
 unfold put1
 simp only
 split
 ·simp; omega
 ·omega
theorem put1_mem {xs : List ByteArray} {s x : ByteArray} (h : x ∈ put1 xs s) : x = s ∨ x ∈ xs := by
 unfold put1 at h
 simp only at h
 split at h
 ·rw [List.mem_append, List.mem_cons] at h
  rcases h with h | rfl | h
  ·exact .inr (List.mem_of_mem_take h)
  ·exact .inl rfl
  ·exact .inr (List.mem_of_mem_drop h)
 ·exact .inr h
def Asc (xs : List ByteArray) : Prop := xs.Pairwise fun a b => sl a b = true
theorem Asc.isSet : ∀ {xs : List ByteArray}, Asc xs → isSet xs = true
 | [], _ => rfl
 | [_], _ => rfl
 | a :: b :: l, h => by
  have h' := List.pairwise_cons.1 h
  rw [Go.Proofs.YthblaeleogdfpaaGreatDoor.isSet, Bool.and_eq_true]
  exact ⟨h'.1 b (by simp), Asc.isSet h'.2⟩
theorem put1_asc {xs : List ByteArray} {s : ByteArray} (h : Asc xs) : Asc (put1 xs s) := by
 have hb := before_le s xs
 unfold put1
 simp only
 split
 ·rename_i hc
  have h1 : Asc (xs.take (before s xs)) := List.Pairwise.sublist (List.take_sublist _ _) h
  have h2 : Asc (xs.drop (before s xs)) := List.Pairwise.sublist (List.drop_sublist _ _) h
  have hlow : ∀ x ∈ xs.take (before s xs), sl x s = true := fun x hx => by
   obtain ⟨i, hi, rfl⟩ := List.mem_iff_getElem.1 hx
   have hi' : i < before s xs := by simp at hi; omega
   have := before_lt s xs i hi'
   rw [List.getElem_take]
   simpa [List.getD, show i < xs.length by omega] using this
  have hhigh : ∀ x ∈ xs.drop (before s xs), sl s x = true := by
   rcases hc with hc | hc
   ·intro x hx; rw [hc, List.drop_length] at hx; simp at hx
   ·intro x hx
    have hlt : before s xs < xs.length := by
     rcases Nat.lt_or_ge (before s xs) xs.length with h3 | h3
     ·exact h3
     ·rw [List.drop_eq_nil_of_le h3] at hx; simp at hx
    have hat := before_at s xs hlt
    have hd : xs.drop (before s xs) = xs.getD (before s xs) ⟨#[]⟩ :: xs.drop (before s xs + 1) := by
     rw [List.drop_eq_getElem_cons hlt]; simp [List.getD, hlt]
    rw [hd] at hx h2
    have hs0 : sl s (xs.getD (before s xs) ⟨#[]⟩) = true := by
     rcases sl_total s (xs.getD (before s xs) ⟨#[]⟩) with h4 | h4 | h4
     ·exact h4
     ·exact absurd h4.symm hc
     ·rw [h4] at hat; cases hat
    rcases List.mem_cons.1 hx with rfl | hx
    ·exact hs0
    ·exact sl_trans hs0 ((List.pairwise_cons.1 h2).1 x hx)
  refine List.pairwise_append.2 ⟨h1, List.pairwise_cons.2 ⟨hhigh, h2⟩, fun x hx y hy => ?_⟩
  rcases List.mem_cons.1 hy with rfl | hy
  ·exact hlow x hx
  ·exact sl_trans (hlow x hx) (hhigh y hy)
 ·exact h
theorem foldl_put1 (l : List ByteArray) : ∀ acc, Asc acc → Asc (l.foldl put1 acc) ∧ (l.foldl put1 acc).length ≤ acc.length + l.length ∧ ∀ x ∈ l.foldl put1 acc, x ∈ acc ∨ x ∈ l := by
 induction l with
 | nil => intro acc h; exact ⟨h, by simp, fun x hx => .inl hx⟩
 | cons a l ih =>
  intro acc h
  obtain ⟨h1, h2, h3⟩ := ih (put1 acc a) (put1_asc h)
  refine ⟨h1, ?_, fun x hx => ?_⟩
  ·have := put1_length acc a
   simp only [List.foldl_cons, List.length_cons]
   omega
  ·rcases h3 x hx with h4 | h4
   ·rcases put1_mem h4 with rfl | h5
    ·exact .inr (by simp)
    ·exact .inl h5
   ·exact .inr (by simp [h4])
theorem setOfL_asc (l : List ByteArray) : Asc (setOfL l) := (foldl_put1 l [] List.Pairwise.nil).1
theorem setOfL_len (l : List ByteArray) : (setOfL l).length ≤ l.length := by
 have := (foldl_put1 l [] List.Pairwise.nil).2.1
 unfold setOfL; simpa using this
end Go.Proofs.YthblaeleogdfpaaGreatDoor

namespace Go.Proofs.YthblaeleogdfpaaGreatDoor
open Go.RowKit
def RdS (w : World) (B : Nat) (v : Value) (xs : List ByteArray) : Prop := Rd w B v xs.length (strF xs)
theorem info_str : (Tryz.prog.info? 9).map (fun i => (i.zero, i.size, i.bytes)) = some (some (.string ⟨#[]⟩), 1, 16) := by kernel_rfl
theorem smap_get {xs : List ByteArray} {i : Nat} (h : i < xs.length) : (xs.map Value.string)[i]? = some (.string (xs.getD i ⟨#[]⟩)) := by simp [List.getD, h]
def GivesS (w : World) (xs : List ByteArray) (e : Ending) (w' : World) : Prop :=
  ∃ a c, e = .returned (.slice a xs.length c) ∧ w'.ownsRow w.heap.size 9 1 (.slice a xs.length c) xs.length (xs.map Value.string) ∧ Below w.heap.size w w'
theorem rdS_of_own {w : World} {base : Nat} {v : Value} {xs : List ByteArray} (h : w.ownsRow base 9 1 v xs.length (xs.map Value.string)) : RdS w w.heap.size v xs :=
 rd_of_owns h _ (fun _ hi => smap_get hi)
theorem own_at {w w' : World} {base : Nat} {e : TypeId} {k n : Nat} {v : Value} {L : List Value} (h : w.ownsRow base e k v n L) (hb : ∀ b, v.ownBlock = some b → w'.heap[b]? = w.heap[b]?) : w'.ownsRow base e k v n L := by
 refine ⟨h.1, ?_⟩
 rcases h.2 with h1 | ⟨g, cap, cur, rfl, h2, h3, rest⟩
 ·exact .inl h1
 ·exact .inr ⟨g, cap, cur, rfl, h2, (hb g rfl).trans h3, rest⟩
theorem own_later {w w' : World} {base : Nat} {e : TypeId} {k n : Nat} {v : Value} {L : List Value} (h : w.ownsRow base e k v n L) (hb : Below w.heap.size w w') : w'.ownsRow base e k v n L :=
 own_at h fun b hbb => hb.block b (h.lt b hbb).2
end Go.Proofs.YthblaeleogdfpaaGreatDoor

namespace Go.Proofs.YthblaeleogdfpaaGreatDoor
open Go.RowKit
structure Roll (B g : Nat) (w w' : World) : Prop where
  os : w'.os = w.os
  tape : w'.tape = w.tape
  output : w'.output = w.output
  size : w.heap.size ≤ w'.heap.size
  block : ∀ k, k < B → k ≠ g → w'.heap[k]? = w.heap[k]?
section
variable {B B' g : Nat} {a b c w w' : World}
theorem Roll.refl (B g : Nat) (w : World) : Roll B g w w := ⟨rfl, rfl, rfl, Nat.le_refl _, fun _ _ _ => rfl⟩
theorem Roll.trans (h : Roll B g a b) (k : Roll B g b c) : Roll B g a c :=
 ⟨k.os.trans h.os, k.tape.trans h.tape, k.output.trans h.output, Nat.le_trans h.size k.size, fun i hi hg => (k.block i hi hg).trans (h.block i hi hg)⟩
theorem Roll.mono (h : Roll B g a b) (hB : B' ≤ B) : Roll B' g a b := ⟨h.os, h.tape, h.output, h.size, fun i hi hg => h.block i (by omega) hg⟩
theorem Roll.of_below (h : Below B a b) (g : Nat) : Roll B g a b := ⟨h.os, h.tape, h.output, h.size, fun i hi _ => h.block i hi⟩
theorem Roll.below (h : Roll B g a b) (hg : B' ≤ g) (hB : B' ≤ B) : Below B' a b := ⟨h.os, h.tape, h.output, h.size, fun i hi => h.block i (by omega) (by omega)⟩
theorem Roll.drewN (h : Roll B g a b) (n : Nat) : Roll B g a (b.drewN n) := h.trans ⟨rfl, rfl, rfl, Nat.le_refl _, fun _ _ _ => rfl⟩
theorem Roll.setCell (h : Roll B g a b) {p : Addr} (hp : p.block = g) (v : Value) : Roll B g a (b.setCell p v) :=
 h.trans ⟨rfl, rfl, rfl, by simp, fun k _ hk => Below.heap_setCell b p v k (by rw [hp]; exact hk)⟩
theorem Roll.alloc (h : Roll B g a b) (hB : B ≤ b.heap.size) (o : Obj) : Roll B g a (b.alloc o) :=
 h.trans ⟨rfl, rfl, rfl, by simp, fun k hk _ => Below.heap_alloc b o k (by omega)⟩
theorem Roll.cell (h : Roll B g a b) {p : Addr} (hp : p.block < B) (hg : p.block ≠ g) : b.cell? p = a.cell? p := World.cell?_of_block (h.block _ hp hg)
theorem Roll.frozen (h : Roll B g a b) {p : Addr} (hp : p.block < B) (hg : p.block ≠ g) : b.frozen? p = a.frozen? p := World.frozen?_of_block (h.block _ hp hg)
end
theorem Roll.grown {B g : Nat} {a w w' : World} {row : Option Nat} (h : Roll B g a w) (hg : w.grownBy w' row) (hB : B ≤ w.heap.size) (hr : ∀ k, row = some k → B ≤ k) : Roll B g a w' :=
 h.trans ⟨hg.os, hg.tape, hg.output, hg.size, fun k hk _ => hg.block k (by omega) (fun e => by have := hr k e.symm; omega)⟩
theorem own_roll {w w' : World} {base : Nat} {e : TypeId} {size n B g : Nat} {v : Value} {xs : List Value} (h : w.ownsRow base e size v n xs) (hr : Roll B g w w') (hB : w.heap.size ≤ B) (hg : g < base) : w'.ownsRow base e size v n xs := by
 refine ⟨h.1, ?_⟩
 rcases h.2 with hn | ⟨b, cap, cur, hv, hb, hc, rest⟩
 ·exact .inl hn
 ·exact .inr ⟨b, cap, cur, hv, hb, (hr.block b (by have := (Array.getElem?_eq_some_iff.1 hc).1; omega) (by omega)).trans hc, rest⟩
def DiceAt (t : TypeId) (w : World) (g : Nat) : Prop :=
  ∃ (a : Option Addr) (n c k : Nat), w.heap[g]? = some (.cells #[.slice a n c, .int .i64 (k : Int)] t (0, 0)) ∧ k ≤ n ∧ n ≤ 300 ∧
    (0 < n → ∃ b o, a = some ⟨b, o, none⟩ ∧ b < g ∧ ∀ i, i < n → ∃ x : Nat, x < 256 ∧ w.cell? ⟨b, o + i, none⟩ = some (.int .u8 (x : Int)))
theorem DiceAt.lt {t : TypeId} {w : World} {g : Nat} (h : DiceAt t w g) : g < w.heap.size := by
 obtain ⟨a, n, c, k, hh, _⟩ := h
 exact (Array.getElem?_eq_some_iff.1 hh).1
theorem DiceAt.keep {t : TypeId} {w w' : World} {g : Nat} (h : DiceAt t w g) (hb : ∀ k, k ≤ g → w'.heap[k]? = w.heap[k]?) : DiceAt t w' g := by
 obtain ⟨a, n, c, k, hh, h1, h2, h3⟩ := h
 refine ⟨a, n, c, k, (hb g (Nat.le_refl _)).trans hh, h1, h2, fun hn => ?_⟩
 obtain ⟨b, o, e, hlt, hc⟩ := h3 hn
 exact ⟨b, o, e, hlt, fun i hi => by
  obtain ⟨x, hx, hcx⟩ := hc i hi
  exact ⟨x, hx, (World.cell?_of_block (hb b (by omega))).trans hcx⟩⟩
theorem DiceAt.below {t : TypeId} {w w' : World} {g B : Nat} (h : DiceAt t w g) (hb : Below B w w') (hB : g < B) : DiceAt t w' g := h.keep fun k hk => hb.block k (by omega)
theorem DiceAt.drewN {t : TypeId} {w : World} {g : Nat} (h : DiceAt t w g) (n : Nat) : DiceAt t (w.drewN n) g := h
theorem DiceAt.alloc {t : TypeId} {w : World} {g : Nat} (h : DiceAt t w g) (o : Obj) : DiceAt t (w.alloc o) g := h.below ((Below.refl _ _).alloc (Nat.le_refl _) o) h.lt
theorem DiceAt.next {t : TypeId} {w : World} {g : Nat} {a : Option Addr} {n c k : Nat} (hh : w.heap[g]? = some (.cells #[.slice a n c, .int .i64 (k : Int)] t (0, 0))) (h1 : k < n) (h2 : n ≤ 300)
  (h3 : 0 < n → ∃ b o, a = some ⟨b, o, none⟩ ∧ b < g ∧ ∀ i, i < n → ∃ x : Nat, x < 256 ∧ w.cell? ⟨b, o + i, none⟩ = some (.int .u8 (x : Int))) :
  DiceAt t (w.setCell ⟨g, 1, none⟩ (.int .i64 ((k : Int) + 1))) g := by
 refine ⟨a, n, c, k + 1, ?_, h1, h2, fun hn => ?_⟩
 ·rw [show (((k + 1 : Nat) : Int)) = (k : Int) + 1 from by omega]
  simp [World.setCell, Array.getElem?_modify, hh]
 ·obtain ⟨b, o, e, hlt, hc⟩ := h3 hn
  refine ⟨b, o, e, hlt, fun i hi => ?_⟩
  obtain ⟨x, hx, hcx⟩ := hc i hi
  refine ⟨x, hx, ?_⟩
  rw [World.cell?_setCell_other, hcx]
  intro e2
  injection e2 with e3
  omega
def Picks (t : TypeId) (w : World) (g : Nat) (N : Int) (e : Ending) (w' : World) : Prop :=
  ∃ m : Nat, e = .returned (.int .i64 (m : Int)) ∧ (m : Int) < N ∧ DiceAt t w' g ∧ Roll w.heap.size g w w' ∧ w'.heap.size = w.heap.size
end Go.Proofs.YthblaeleogdfpaaGreatDoor

namespace Go.Proofs.YthblaeleogdfpaaGreatDoor
open Go.RowKit
section
variable {P : Program} (w : World)
theorem append_types {t tx ty e e' : TypeId} (ht : P.underlying t = some (.slice e)) (hk : P.underlying tx = some (.slice e')) (s x : Value) :
  (Builtin.append_ #[t, tx] ty #[s, x]).run P w = (Builtin.append_ #[t, t] ty #[s, x]).run P w := by
 cases s <;> simp [Builtin.append_, run_underlying ht, run_underlying hk]
theorem run_append_empty {t ty e : TypeId} {i : TypeInfo} (ht : P.underlying t = some (.slice e)) (hi : P.info? e = some i) (base : Option Addr) (n cap c : Nat) (hn : n ≤ cap) (ao : Option Addr) :
  (Builtin.append_ #[t, t] ty #[.slice base n cap, .slice ao 0 c]).run P w = .ok (.slice base n cap) w := by
 cases ao <;> cases base <;> simp [Builtin.append_, run_underlying ht, sizeOf, typeInfo, hi, Builtin.lenOf, Builtin.firstCells, loadCells, loadCellsFrom, storeCells, hn]
theorem run_append_form (base : Nat) (t tx ty e e' : TypeId) (i : TypeInfo) (z : Value) (size bytes : Nat) (ht : P.underlying t = some (.slice e)) (hk : P.underlying tx = some (.slice e')) (hi : P.info? e = some i) (hz : i.zero = some z)
  (hsize : i.size = size) (hby : i.bytes = bytes) (hzs : z.cells.size = size) (hsz : 0 < size)
  (v : Value) (n : Nat) (xs : List Value) (hown : w.ownsRow base e size v n xs)
  (ao : Option Addr) (m c : Nat) (news : List Value) (hl : news.length = m * size) (hnews : 0 < m → ∃ ad, ao = some ad ∧ ∀ j u, news[j]? = some u → w.cell? (ad.add j) = some u) (h1 : ∀ u ∈ news, u.oneCell' = true)
  (hpos : 0 < n + m) (h63 : n + m ≤ maxLen) (hbytes : (n + m) * bytes ≤ 140737488355328) (hbase : base ≤ w.heap.size) :
  ∃ g cap w', (Builtin.append_ #[t, tx] ty #[v, .slice ao m c]).run P w = .ok (.slice (some ⟨g, 0, none⟩) (n + m) cap) w' ∧
   w'.ownsRow base e size (.slice (some ⟨g, 0, none⟩) (n + m) cap) (n + m) (xs ++ news) ∧ w.grownBy w' v.ownBlock ∧ (v.ownBlock = some g ∨ g = w.heap.size) ∧ g < w'.heap.size := by
 rw [append_types w ht hk]
 by_cases hm : m = 0
 ·subst hm
  have hn : news = [] := List.eq_nil_of_length_eq_zero (by simpa using hl)
  subst hn
  obtain ⟨g, cap, rfl, hg, hlt⟩ := hown.form (by omega)
  have hnc : n ≤ cap := by
   rcases hown.2 with ⟨h, _⟩ | ⟨g', cap', cur, h, _, _, hnc, _⟩
   ·cases h
   ·obtain ⟨_, _, rfl⟩ := Value.slice.inj h
    exact hnc
  exact ⟨g, cap, w, run_append_empty w ht hi _ n cap c hnc ao, by simpa using hown, ⟨rfl, rfl, rfl, Nat.le_refl _, fun _ _ _ => rfl⟩, .inl rfl, hlt⟩
 ·obtain ⟨ad, rfl, hc⟩ := hnews (by omega)
  obtain ⟨g, cap, w', h2, h3, h4, h5, h6⟩ := run_append_lies (P := P) w t ty base e i z size bytes ht hi hz hsize hby hzs hsz v n xs hown ad m c news hl hc h1 (by omega) h63 hbytes hbase w.heap.size rfl
  exact ⟨g, cap, w', h2, h3, h4, h5, h6⟩
theorem wp_append_form {o : Oper} {a : Act} {K : Act → World → Prop} {Q : Exit → Act → World → Prop} (s x : Operand) (t tx : TypeId)
  (ho : o.op = .call { callee := .builtin .append, args := #[s, x], argTypes := #[t, tx] })
  (base : Nat) (e e' : TypeId) (i : TypeInfo) (z : Value) (size bytes : Nat) (ht : P.underlying t = some (.slice e)) (hk : P.underlying tx = some (.slice e')) (hi : P.info? e = some i) (hz : i.zero = some z)
  (hsize : i.size = size) (hby : i.bytes = bytes) (hzs : z.cells.size = size) (hsz : 0 < size)
  (v : Value) (n : Nat) (xs : List Value) (hs : a.eval s = v) (hown : w.ownsRow base e size v n xs)
  (ao : Option Addr) (m c : Nat) (news : List Value) (hx : a.eval x = .slice ao m c) (hl : news.length = m * size) (hnews : 0 < m → ∃ ad, ao = some ad ∧ ∀ j u, news[j]? = some u → w.cell? (ad.add j) = some u) (h1 : ∀ u ∈ news, u.oneCell' = true)
  (hpos : 0 < n + m) (h63 : n + m ≤ maxLen) (hbytes : (n + m) * bytes ≤ 140737488355328) (hbase : base ≤ w.heap.size)
  (h : ∀ g cap w', w'.ownsRow base e size (.slice (some ⟨g, 0, none⟩) (n + m) cap) (n + m) (xs ++ news) → w.grownBy w' v.ownBlock → (v.ownBlock = some g ∨ g = w.heap.size) → g < w'.heap.size → K (a.put o.dst (.slice (some ⟨g, 0, none⟩) (n + m) cap)) w') : o.wp P a w K Q := by
 obtain ⟨g, cap, w', hr, h2, h3, h4, h5⟩ := run_append_form (P := P) w base t tx o.type e e' i z size bytes ht hk hi hz hsize hby hzs hsz v n xs hown ao m c news hl hnews h1 hpos h63 hbytes hbase
 unfold Oper.wp execOp
 simp only [ho, resolve, invoke, builtin, Sem.run_bind, Sem.run_pure, Result.andThen_ok, List.map_toArray, List.map_cons, List.map_nil, hs, hx, hr]
 exact h g cap w' h2 h3 h4 h5
theorem wpList_append_form {ops : Array Oper} {rest : List Oper} {o : Oper} {a : Act} {Q : Exit → Act → World → Prop} (hgd : o.guard = none) (s x : Operand) (t tx : TypeId)
  (ho : o.op = .call { callee := .builtin .append, args := #[s, x], argTypes := #[t, tx] })
  (base : Nat) (e e' : TypeId) (i : TypeInfo) (z : Value) (size bytes : Nat) (ht : P.underlying t = some (.slice e)) (hk : P.underlying tx = some (.slice e')) (hi : P.info? e = some i) (hz : i.zero = some z)
  (hsize : i.size = size) (hby : i.bytes = bytes) (hzs : z.cells.size = size) (hsz : 0 < size)
  (v : Value) (n : Nat) (xs : List Value) (hs : a.eval s = v) (hown : w.ownsRow base e size v n xs)
  (ao : Option Addr) (m c : Nat) (news : List Value) (hx : a.eval x = .slice ao m c) (hl : news.length = m * size) (hnews : 0 < m → ∃ ad, ao = some ad ∧ ∀ j u, news[j]? = some u → w.cell? (ad.add j) = some u) (h1 : ∀ u ∈ news, u.oneCell' = true)
  (hpos : 0 < n + m) (h63 : n + m ≤ maxLen) (hbytes : (n + m) * bytes ≤ 140737488355328) (hbase : base ≤ w.heap.size)
  (h : ∀ g cap w', w'.ownsRow base e size (.slice (some ⟨g, 0, none⟩) (n + m) cap) (n + m) (xs ++ news) → w.grownBy w' v.ownBlock → (v.ownBlock = some g ∨ g = w.heap.size) → g < w'.heap.size → wpList P ops Q rest (a.put o.dst (.slice (some ⟨g, 0, none⟩) (n + m) cap)) w') : wpList P ops Q (o :: rest) a w :=
 wpList_plain hgd fun _ hK => wp_append_form w s x t tx ho base e e' i z size bytes ht hk hi hz hsize hby hzs hsz v n xs hs hown ao m c news hx hl hnews h1 hpos h63 hbytes hbase fun g cap w' h2 h3 h4 h5 => hK _ _ (h g cap w' h2 h3 h4 h5)
theorem step_append_form {ops : Array Oper} {o : Oper} {a : Act} {K : Act → World → Prop} {Q : Exit → Act → World → Prop} {E : Prop} (hgd : o.guard = none) (s x : Operand) (t tx : TypeId)
  (ho : o.op = .call { callee := .builtin .append, args := #[s, x], argTypes := #[t, tx] })
  (base : Nat) (e e' : TypeId) (i : TypeInfo) (z : Value) (size bytes : Nat) (ht : P.underlying t = some (.slice e)) (hk : P.underlying tx = some (.slice e')) (hi : P.info? e = some i) (hz : i.zero = some z)
  (hsize : i.size = size) (hby : i.bytes = bytes) (hzs : z.cells.size = size) (hsz : 0 < size)
  (v : Value) (n : Nat) (xs : List Value) (hs : a.eval s = v) (hown : w.ownsRow base e size v n xs)
  (ao : Option Addr) (m c : Nat) (news : List Value) (hx : a.eval x = .slice ao m c) (hl : news.length = m * size) (hnews : 0 < m → ∃ ad, ao = some ad ∧ ∀ j u, news[j]? = some u → w.cell? (ad.add j) = some u) (h1 : ∀ u ∈ news, u.oneCell' = true)
  (hpos : 0 < n + m) (h63 : n + m ≤ maxLen) (hbytes : (n + m) * bytes ≤ 140737488355328) (hbase : base ≤ w.heap.size)
  (h : ∀ g cap w', w'.ownsRow base e size (.slice (some ⟨g, 0, none⟩) (n + m) cap) (n + m) (xs ++ news) → w.grownBy w' v.ownBlock → (v.ownBlock = some g ∨ g = w.heap.size) → g < w'.heap.size → K (a.put o.dst (.slice (some ⟨g, 0, none⟩) (n + m) cap)) w') :
  if Region.wanted o (yielded ops a.tmps) = true then Oper.wp P o a w K Q else E := by
 have hw : Region.wanted o (yielded ops a.tmps) = true := by simp [Region.wanted, hgd]
 rw [if_pos hw]
 exact wp_append_form w s x t tx ho base e e' i z size bytes ht hk hi hz hsize hby hzs hsz v n xs hs hown ao m c news hx hl hnews h1 hpos h63 hbytes hbase h
end
theorem own_base {w : World} {base base' : Nat} {e : TypeId} {size n : Nat} {v : Value} {xs : List Value} (h : w.ownsRow base e size v n xs) (hb : base' ≤ base) : w.ownsRow base' e size v n xs := by
 refine ⟨h.1, ?_⟩
 rcases h.2 with h0 | ⟨g, cap, cur, hv, hbg, rest⟩
 ·exact .inl h0
 ·exact .inr ⟨g, cap, cur, hv, Nat.le_trans hb hbg, rest⟩
theorem own_drewN {w : World} {base : Nat} {e : TypeId} {size n : Nat} {v : Value} {xs : List Value} (h : w.ownsRow base e size v n xs) (k : Nat) : (w.drewN k).ownsRow base e size v n xs := h
end Go.Proofs.YthblaeleogdfpaaGreatDoor
