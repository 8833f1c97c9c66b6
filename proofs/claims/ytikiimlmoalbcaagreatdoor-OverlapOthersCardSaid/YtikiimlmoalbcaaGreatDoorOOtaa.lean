/- Words for memory: a slice that is read, what a call keeps. No program in sight. DERIVED: THE SHELF's CONTRACTS AT THIS DUMP, IN PLAIN WORDS (tools/lay-plain.mjs out of 'YtikiimlmoalbcaaGreatDoorShIL.lean', which tools/lay-shelf.mjs wrote): THE SAME DECLARATIONS UNDER THE SAME NAMES: 'import', 'namespace', 'open', 'def', 'theorem' AND NOTHING ELSE: no command of the shelf's: FOR A HAND-IN. Each laying: the table of numbers ('.._ren') and one theorem, a field a fact of the dump's own or the kernel's comparison; each contract: ONE APPLICATION. Words for dice: the memory that a roll turns. No program in sight. A slice of bytes that came in. No program in sight. Contracts of the dice: New, Pick, Words. Plain: texts in order, sets of texts, insertion. No program in sight. Words for new texts. No program in sight. Contracts of sets of texts: text.IsSet, the reference's Set. -/
import Derived.WalkKit
import Derived.WalkSpells
import Derived.WalkLawsBesides
import Derived.WalkSmall
import Derived.BigRegion
import Derived.BigQuiet
import Derived.Deep.QuietTactic
import Derived.Deep.RegionHeld3
import Derived.Deep.LoopGhost
import Derived.Deep.OwnRows
import Derived.Lib.OthersKept
import Derived.Handy
import Derived.Shelf.Strconv.Itoa3
import Derived.Test.YtikiimlmoalbcaaGreatDoorProg
import Derived.Test.YtikiimlmoalbcaaGreatDoorRows
import Derived.Lib.Strings
set_option linter.unusedVariables false
set_option linter.unusedSimpArgs false
namespace Go.Proofs.YtikiimlmoalbcaaGreatDoor
open Go.RowKit
theorem hid {p : Prop} (h : p) : Hid p := h
def Quiet (w : World) (v : Value) (e : Ending) (w' : World) : Prop := e = .returned v ∧ ∃ k, w' = w.drewN k
def Ret (w : World) (v : Value) (e : Ending) (w' : World) : Prop := e = .returned v ∧ Below w.heap.size w w'
theorem below_drewN {B n : Nat} {a w : World} (h : Below B a w) : Below B a (w.drewN n) := ⟨h.os, h.tape, h.output, h.size, h.block⟩
theorem Quiet.ret {w : World} {v : Value} {e : Ending} {w' : World} (h : Quiet w v e w') : Ret w v e w' := by
  obtain ⟨he, k, rfl⟩ := h
  exact ⟨he, below_drewN (Below.refl _ _)⟩
theorem frozen_later {w wx : World} {a : Addr} {v : Value} (hb : Below w.heap.size w wx) (hc : w.cell? a = some v) (h : w.frozen? a = false) : wx.frozen? a = false :=
  (hb.frozen (World.block_lt_of_cell? _ _ hc)).trans h
theorem ret_int {k : IntKind} {a b : Int} (h : a = b) : Ending.returned (.int k a) = .returned (.int k b) := by rw [h]
theorem ret_bool {a b : Bool} (h : a = b) : Ending.returned (.bool a) = .returned (.bool b) := by rw [h]
def Rd (w : World) (B : Nat) (v : Value) (n : Nat) (f : Nat → Value) : Prop :=
  ∃ a c, v = .slice a n c ∧ n ≤ c ∧ c ≤ maxLen ∧ (0 < n → ∃ b o, a = some ⟨b, o, none⟩ ∧ b < B ∧ ∀ i, i < n → w.cell? ⟨b, o + i, none⟩ = some (f i))
def Rd2 (w : World) (B : Nat) (v : Value) (n : Nat) (f g : Nat → Value) : Prop :=
  ∃ a c, v = .slice a n c ∧ n ≤ c ∧ c ≤ maxLen ∧ (0 < n → ∃ b o, a = some ⟨b, o, none⟩ ∧ b < B ∧ ∀ i, i < n → w.cell? ⟨b, o + i * 2, none⟩ = some (f i) ∧ w.cell? ⟨b, o + i * 2 + 1, none⟩ = some (g i))
section
variable {w w' : World} {B B' n : Nat} {v : Value} {f g : Nat → Value}
theorem Rd.keep (h : Rd w B v n f) (hk : ∀ p : Addr, p.block < B → w'.cell? p = w.cell? p) : Rd w' B v n f := by
  obtain ⟨a, c, e, h1, h2, h3⟩ := h
  refine ⟨a, c, e, h1, h2, fun hp => ?_⟩
  obtain ⟨b, o, e1, h5, h6⟩ := h3 hp
  exact ⟨b, o, e1, h5, fun i hi => (hk _ h5).trans (h6 i hi)⟩
theorem Rd.more (h : Rd w B v n f) (hB : B ≤ B') : Rd w B' v n f := by
  obtain ⟨a, c, e, h1, h2, h3⟩ := h
  refine ⟨a, c, e, h1, h2, fun hp => ?_⟩
  obtain ⟨b, o, e1, h5, h6⟩ := h3 hp
  exact ⟨b, o, e1, by omega, h6⟩
theorem Rd.below (h : Rd w B v n f) {C : Nat} (hb : Below C w w') (hC : B ≤ C) : Rd w' B v n f := h.keep fun _ hp => hb.cell (by omega)
theorem Rd.drewN (h : Rd w B v n f) (k : Nat) : Rd (w.drewN k) B v n f := h
theorem Rd.nil : Rd w B (.slice none 0 0) 0 f := ⟨none, 0, rfl, Nat.le_refl _, by simp [maxLen], fun h => absurd h (by omega)⟩
theorem Rd.congr (h : Rd w B v n f) (e : ∀ i, i < n → f i = g i) : Rd w B v n g := by
  obtain ⟨a, c, e1, h1, h2, h3⟩ := h
  refine ⟨a, c, e1, h1, h2, fun hp => ?_⟩
  obtain ⟨b, o, e2, h5, h6⟩ := h3 hp
  exact ⟨b, o, e2, h5, fun i hi => by rw [← e i hi]; exact h6 i hi⟩
theorem Rd2.keep (h : Rd2 w B v n f g) (hk : ∀ p : Addr, p.block < B → w'.cell? p = w.cell? p) : Rd2 w' B v n f g := by
  obtain ⟨a, c, e, h1, h2, h3⟩ := h
  refine ⟨a, c, e, h1, h2, fun hp => ?_⟩
  obtain ⟨b, o, e1, h5, h6⟩ := h3 hp
  exact ⟨b, o, e1, h5, fun i hi => ⟨(hk _ h5).trans (h6 i hi).1, (hk _ h5).trans (h6 i hi).2⟩⟩
theorem Rd2.more (h : Rd2 w B v n f g) (hB : B ≤ B') : Rd2 w B' v n f g := by
  obtain ⟨a, c, e, h1, h2, h3⟩ := h
  refine ⟨a, c, e, h1, h2, fun hp => ?_⟩
  obtain ⟨b, o, e1, h5, h6⟩ := h3 hp
  exact ⟨b, o, e1, by omega, h6⟩
theorem Rd2.below (h : Rd2 w B v n f g) {C : Nat} (hb : Below C w w') (hC : B ≤ C) : Rd2 w' B v n f g := h.keep fun _ hp => hb.cell (by omega)
theorem Rd2.nil : Rd2 w B (.slice none 0 0) 0 f g := ⟨none, 0, rfl, Nat.le_refl _, by simp [maxLen], fun h => absurd h (by omega)⟩
end
theorem rd_of_owns {w : World} {base : Nat} {e : TypeId} {v : Value} {n : Nat} {xs : List Value} (h : w.ownsRow base e 1 v n xs) (f : Nat → Value) (hf : ∀ i, i < n → xs[i]? = some (f i)) :
    Rd w w.heap.size v n f := by
  obtain ⟨hl, h⟩ := h
  rcases h with ⟨rfl, rfl⟩ | ⟨g, cap, cur, rfl, hb, hg, hn, hm, hs, ht⟩
  · exact Rd.nil
  · refine ⟨_, _, rfl, hn, hm, fun hp => ⟨g, 0, rfl, (Array.getElem?_eq_some_iff.1 hg).1, fun i hi => ?_⟩⟩
    rw [Nat.zero_add, cell_of_row w g i cur e (0, 0) hg]
    have h1 := hf i hi
    rw [← ht, List.getElem?_take, if_pos (by omega)] at h1
    simpa using h1
theorem push_below {B e size n : Nat} {w wr w' : World} {o : Value} {O : Obj} {xs : List Value} (h : Below B w wr) (hB : B ≤ wr.heap.size) (hown : wr.ownsRow B e size o n xs)
    (hg : (wr.alloc O).grownBy w' o.ownBlock) : Below B w w' :=
  (h.alloc hB O).grown hg (by simp; omega) (fun k hk => (hown.lt k hk).1)
theorem own_slice {w : World} {base : Nat} {e : TypeId} {size : Nat} {v : Value} {n : Nat} {xs : List Value} (h : w.ownsRow base e size v n xs) : ∃ a c, v = .slice a n c := by
  rcases h.2 with ⟨rfl, rfl⟩ | ⟨g, cap, cur, rfl, _⟩
  · exact ⟨_, _, rfl⟩
  · exact ⟨_, _, rfl⟩
def strF (xs : List ByteArray) (i : Nat) : Value := .string (xs.getD i ⟨#[]⟩)
def intF (xs : List Int) (i : Nat) : Value := .int .i64 (xs.getD i 0)
def natF (xs : List Nat) (i : Nat) : Value := .int .i64 ((xs.getD i 0 : Nat) : Int)
end Go.Proofs.YtikiimlmoalbcaaGreatDoor

namespace Go.Proofs
open Go.Shelf
def Tryz.layItoa_ren : Go.Shelf.Ren := ⟨fun | 171 => 184 | 243 => 213 | 246 => 233 | 283 => 248 | 284 => 249 | 285 => 250 | 286 => 251 | 129 => 198 | 317 => 257 | 318 => 258 | 319 => 259 | 320 => 260 | 337 => 262 | 338 => 263 | n => n, fun | 3 => 3 | 9 => 9 | 2 => 2 | 4 => 4 | 171 => 267 | 0 => 0 | 53 => 159 | 37 => 22 | 5 => 5 | 173 => 269 | 212 => 275 | 51 => 132 | 20 => 20 | 213 => 276 | 46 => 161 | 232 => 278 | 233 => 279 | n => n, fun | 17 => 4 | 18 => 5 | 19 => 6 | n => n⟩
theorem Tryz.layItoa : Go.Proofs.Lays.n171 Tryz.prog Tryz.layItoa_ren := {
  mixed := by kernel_rfl
  f129 := Tryz.func198.trans (congrArg some (by kernel_rfl))
  f171 := Tryz.func184.trans (congrArg some (by kernel_rfl))
  f243 := Tryz.func213.trans (congrArg some (by kernel_rfl))
  f246 := Tryz.func233.trans (congrArg some (by kernel_rfl))
  f283 := Tryz.func248.trans (congrArg some (by kernel_rfl))
  f284 := Tryz.func249.trans (congrArg some (by kernel_rfl))
  f285 := Tryz.func250.trans (congrArg some (by kernel_rfl))
  f286 := Tryz.func251.trans (congrArg some (by kernel_rfl))
  f317 := Tryz.func257.trans (congrArg some (by kernel_rfl))
  f318 := Tryz.func258.trans (congrArg some (by kernel_rfl))
  f319 := Tryz.func259.trans (congrArg some (by kernel_rfl))
  f320 := Tryz.func260.trans (congrArg some (by kernel_rfl))
  f337 := Tryz.func262.trans (congrArg some (by kernel_rfl))
  f338 := Tryz.func263.trans (congrArg some (by kernel_rfl))
  t0 := Tryz.underlying0
  a0 := Tryz.isAgg0
  z0 := Tryz.sizeOf0
  v0 := Tryz.zeroValue0
  t2 := Tryz.underlying2
  a2 := Tryz.isAgg2
  z2 := Tryz.sizeOf2
  v2 := Tryz.zeroValue2
  t3 := Tryz.underlying3
  a3 := Tryz.isAgg3
  z3 := Tryz.sizeOf3
  v3 := Tryz.zeroValue3
  t4 := Tryz.underlying4
  a4 := Tryz.isAgg4
  z4 := Tryz.sizeOf4
  v4 := Tryz.zeroValue4
  t5 := Tryz.underlying5
  a5 := Tryz.isAgg5
  z5 := Tryz.sizeOf5
  v5 := Tryz.zeroValue5
  t9 := Tryz.underlying9
  a9 := Tryz.isAgg9
  z9 := Tryz.sizeOf9
  v9 := Tryz.zeroValue9
  t20 := Tryz.underlying20
  a20 := Tryz.isAgg20
  z20 := Tryz.sizeOf20
  v20 := Tryz.zeroValue20
  t37 := Tryz.underlying22
  a37 := Tryz.isAgg22
  z37 := Tryz.sizeOf22
  v37 := Tryz.zeroValue22
  t46 := Tryz.underlying161
  a46 := Tryz.isAgg161
  z46 := Tryz.sizeOf161
  v46 := Tryz.zeroValue161
  t51 := Tryz.underlying132
  a51 := Tryz.isAgg132
  z51 := Tryz.sizeOf132
  v51 := Tryz.zeroValue132
  t53 := Tryz.underlying159
  a53 := Tryz.isAgg159
  z53 := Tryz.sizeOf159
  v53 := Tryz.zeroValue159
  t171 := Tryz.underlying267
  a171 := Tryz.isAgg267
  z171 := Tryz.sizeOf267
  v171 := Tryz.zeroValue267
  t173 := Tryz.underlying269
  a173 := Tryz.isAgg269
  z173 := Tryz.sizeOf269
  v173 := Tryz.zeroValue269
  t212 := Tryz.underlying275
  a212 := Tryz.isAgg275
  z212 := Tryz.sizeOf275
  v212 := Tryz.zeroValue275
  t213 := Tryz.underlying276
  a213 := Tryz.isAgg276
  z213 := Tryz.sizeOf276
  t232 := Tryz.underlying278
  a232 := Tryz.isAgg278
  z232 := Tryz.sizeOf278
  v232 := Tryz.zeroValue278
  t233 := Tryz.underlying279
  a233 := Tryz.isAgg279
  z233 := Tryz.sizeOf279
  v233 := Tryz.zeroValue279
  g17 := by kernel_rfl
  g18 := by kernel_rfl
  g19 := by kernel_rfl }
end Go.Proofs

namespace Go.Proofs.YtikiimlmoalbcaaGreatDoor
open Go.RowKit
structure Roll (B g : Nat) (w w' : World) : Prop where
  os : w'.os = w.os
  tape : w'.tape = w.tape
  output : w'.output = w.output
  size : w.heap.size ≤ w'.heap.size
  block : ∀ k, k < B → k ≠ g → w'.heap[k]? = w.heap[k]?
section
variable {B B' g : Nat} {a b c w w' : World}
theorem Roll.refl (B g : Nat) (w : World) : Roll B g w w := ⟨rfl, rfl, rfl, Nat.le_refl _, fun _ _ _ => rfl⟩
theorem Roll.trans (h : Roll B g a b) (k : Roll B g b c) : Roll B g a c :=
  ⟨k.os.trans h.os, k.tape.trans h.tape, k.output.trans h.output, Nat.le_trans h.size k.size, fun i hi hg => (k.block i hi hg).trans (h.block i hi hg)⟩
theorem Roll.mono (h : Roll B g a b) (hB : B' ≤ B) : Roll B' g a b := ⟨h.os, h.tape, h.output, h.size, fun i hi hg => h.block i (by omega) hg⟩
theorem Roll.of_below (h : Below B a b) (g : Nat) : Roll B g a b := ⟨h.os, h.tape, h.output, h.size, fun i hi _ => h.block i hi⟩
theorem Roll.below (h : Roll B g a b) (hg : B' ≤ g) (hB : B' ≤ B) : Below B' a b := ⟨h.os, h.tape, h.output, h.size, fun i hi => h.block i (by omega) (by omega)⟩
theorem Roll.drewN (h : Roll B g a b) (n : Nat) : Roll B g a (b.drewN n) := h.trans ⟨rfl, rfl, rfl, Nat.le_refl _, fun _ _ _ => rfl⟩
theorem Roll.setCell (h : Roll B g a b) {p : Addr} (hp : p.block = g) (v : Value) : Roll B g a (b.setCell p v) :=
  h.trans ⟨rfl, rfl, rfl, by simp, fun k _ hk => Below.heap_setCell b p v k (by rw [hp]; exact hk)⟩
theorem Roll.alloc (h : Roll B g a b) (hB : B ≤ b.heap.size) (o : Obj) : Roll B g a (b.alloc o) :=
  h.trans ⟨rfl, rfl, rfl, by simp, fun k hk _ => Below.heap_alloc b o k (by omega)⟩
theorem Roll.cell (h : Roll B g a b) {p : Addr} (hp : p.block < B) (hg : p.block ≠ g) : b.cell? p = a.cell? p := World.cell?_of_block (h.block _ hp hg)
theorem Roll.frozen (h : Roll B g a b) {p : Addr} (hp : p.block < B) (hg : p.block ≠ g) : b.frozen? p = a.frozen? p := World.frozen?_of_block (h.block _ hp hg)
end
theorem Roll.grown {B g : Nat} {a w w' : World} {row : Option Nat} (h : Roll B g a w) (hg : w.grownBy w' row) (hB : B ≤ w.heap.size) (hr : ∀ k, row = some k → B ≤ k) : Roll B g a w' :=
  h.trans ⟨hg.os, hg.tape, hg.output, hg.size, fun k hk _ => hg.block k (by omega) (fun e => by have := hr k e.symm; omega)⟩
theorem own_roll {w w' : World} {base : Nat} {e : TypeId} {size n B g : Nat} {v : Value} {xs : List Value} (h : w.ownsRow base e size v n xs) (hr : Roll B g w w') (hB : w.heap.size ≤ B) (hg : g < base) : w'.ownsRow base e size v n xs := by
  refine ⟨h.1, ?_⟩
  rcases h.2 with hn | ⟨b, cap, cur, hv, hb, hc, rest⟩
  · exact .inl hn
  · exact .inr ⟨b, cap, cur, hv, hb, (hr.block b (by have := (Array.getElem?_eq_some_iff.1 hc).1; omega) (by omega)).trans hc, rest⟩
def DiceAt (t : TypeId) (w : World) (g : Nat) : Prop :=
  ∃ (a : Option Addr) (n c k : Nat), w.heap[g]? = some (.cells #[.slice a n c, .int .i64 (k : Int)] t (0, 0)) ∧ k ≤ n ∧ n ≤ 300 ∧
    (0 < n → ∃ b o, a = some ⟨b, o, none⟩ ∧ b < g ∧ ∀ i, i < n → ∃ x : Nat, x < 256 ∧ w.cell? ⟨b, o + i, none⟩ = some (.int .u8 (x : Int)))
theorem DiceAt.lt {t : TypeId} {w : World} {g : Nat} (h : DiceAt t w g) : g < w.heap.size := by
  obtain ⟨a, n, c, k, hh, _⟩ := h
  exact (Array.getElem?_eq_some_iff.1 hh).1
theorem DiceAt.keep {t : TypeId} {w w' : World} {g : Nat} (h : DiceAt t w g) (hb : ∀ k, k ≤ g → w'.heap[k]? = w.heap[k]?) : DiceAt t w' g := by
  obtain ⟨a, n, c, k, hh, h1, h2, h3⟩ := h
  refine ⟨a, n, c, k, (hb g (Nat.le_refl _)).trans hh, h1, h2, fun hn => ?_⟩
  obtain ⟨b, o, e, hlt, hc⟩ := h3 hn
  exact ⟨b, o, e, hlt, fun i hi => by
    obtain ⟨x, hx, hcx⟩ := hc i hi
    exact ⟨x, hx, (World.cell?_of_block (hb b (by omega))).trans hcx⟩⟩
theorem DiceAt.below {t : TypeId} {w w' : World} {g B : Nat} (h : DiceAt t w g) (hb : Below B w w') (hB : g < B) : DiceAt t w' g := h.keep fun k hk => hb.block k (by omega)
theorem DiceAt.drewN {t : TypeId} {w : World} {g : Nat} (h : DiceAt t w g) (n : Nat) : DiceAt t (w.drewN n) g := h
theorem DiceAt.alloc {t : TypeId} {w : World} {g : Nat} (h : DiceAt t w g) (o : Obj) : DiceAt t (w.alloc o) g := h.below ((Below.refl _ _).alloc (Nat.le_refl _) o) h.lt
theorem DiceAt.next {t : TypeId} {w : World} {g : Nat} {a : Option Addr} {n c k : Nat} (hh : w.heap[g]? = some (.cells #[.slice a n c, .int .i64 (k : Int)] t (0, 0))) (h1 : k < n) (h2 : n ≤ 300)
    (h3 : 0 < n → ∃ b o, a = some ⟨b, o, none⟩ ∧ b < g ∧ ∀ i, i < n → ∃ x : Nat, x < 256 ∧ w.cell? ⟨b, o + i, none⟩ = some (.int .u8 (x : Int))) :
    DiceAt t (w.setCell ⟨g, 1, none⟩ (.int .i64 ((k : Int) + 1))) g := by
  refine ⟨a, n, c, k + 1, ?_, h1, h2, fun hn => ?_⟩
  · rw [show (((k + 1 : Nat) : Int)) = (k : Int) + 1 from by omega]
    simp [World.setCell, Array.getElem?_modify, hh]
  · obtain ⟨b, o, e, hlt, hc⟩ := h3 hn
    refine ⟨b, o, e, hlt, fun i hi => ?_⟩
    obtain ⟨x, hx, hcx⟩ := hc i hi
    refine ⟨x, hx, ?_⟩
    rw [World.cell?_setCell_other, hcx]
    intro e2
    injection e2 with e3
    omega
def Picks (t : TypeId) (w : World) (g : Nat) (N : Int) (e : Ending) (w' : World) : Prop :=
  ∃ m : Nat, e = .returned (.int .i64 (m : Int)) ∧ (m : Int) < N ∧ DiceAt t w' g ∧ Roll w.heap.size g w w' ∧ w'.heap.size = w.heap.size
end Go.Proofs.YtikiimlmoalbcaaGreatDoor

namespace Go.Proofs.YtikiimlmoalbcaaGreatDoor
open Go.RowKit
def RdU (w : World) (B : Nat) (a : Option Addr) (n c : Nat) : Prop :=
  n ≤ c ∧ c ≤ maxLen ∧ (0 < n → ∃ b o, a = some ⟨b, o, none⟩ ∧ b < B ∧ ∀ i, i < n → ∃ x : Nat, x < 256 ∧ w.cell? ⟨b, o + i, none⟩ = some (.int .u8 (x : Int)))
end Go.Proofs.YtikiimlmoalbcaaGreatDoor

namespace Go.Proofs.YtikiimlmoalbcaaGreatDoor
open Go.RowKit
set_option maxHeartbeats 1000000 in
theorem dice_Pick (g : Nat) (N : Int) (w : World) (hd : DiceAt 89 w g) (h1 : 1 ≤ N) (h2 : N ≤ 1099511627776) :
    Calls Tryz.prog 22 #[.pointer (some ⟨g, 0, none⟩), .int .i64 N] w (Picks 89 w g N) := by
  have HD := hid hd
  obtain ⟨a, n, c, k, hh, hk, hn, hs⟩ := hd
  have HH := hid hh
  have HS := hid hs
  have c0 : w.cell? ⟨g, 0, none⟩ = some (.slice a n c) := by rw [cell_of_row w g 0 _ _ _ hh]; rfl
  have c1 : w.cell? ⟨g, 1, none⟩ = some (.int .i64 (k : Int)) := by rw [cell_of_row w g 1 _ _ _ hh]; rfl
  have f1 : w.frozen? ⟨g, 1, none⟩ = false := by simp [World.frozen?, hh]
  clear hh hs
  by_cases hlt : k < n
  · obtain ⟨b, o, rfl, hbg, hc⟩ := HS.out (by omega)
    obtain ⟨x, hx, hcx⟩ := hc k hlt
    obtain ⟨r, hr⟩ : ∃ r : Nat, (x : Int) % N = (r : Int) := ⟨((x : Int) % N).toNat, by have := Int.emod_nonneg (x : Int) (show N ≠ 0 by omega); omega⟩
    have hrN : (r : Int) < N := by rw [← hr]; exact Int.emod_lt_of_pos _ (by omega)
    have HR := hid hr
    clear hr
    have HNX := hid (fun q : Nat => DiceAt.next (w := w.drewN q) HH.out hlt hn HS.out)
    have hne : b ≠ g := by omega
    have HCX := hid hcx
    clear hc hcx
    go_enter Tryz.func22, Tryz.ntmps22
    go_wp2
    go_quiet (fail)
    go_wp2
    have hDN := HNX.out nq
    have hRO : Roll w.heap.size g w ((w.drewN nq).setCell ⟨g, 1, none⟩ (.int .i64 ((k : Int) + 1))) := ((Roll.refl w.heap.size g w).drewN nq).setCell (p := ⟨g, 1, none⟩) rfl _
    have hSZ : ((w.drewN nq).setCell ⟨g, 1, none⟩ (.int .i64 ((k : Int) + 1))).heap.size = w.heap.size := by simp
    have e0 : ((w.drewN nq).setCell ⟨g, 1, none⟩ (.int .i64 ((k : Int) + 1))).cell? ⟨g, 0, none⟩ = some (.slice (some ⟨b, o, none⟩) n c) := by
      rw [World.cell?_setCell_other _ _ _ _ (by intro h; injection h with _ h2; omega)]; exact c0
    have e1 : ((w.drewN nq).setCell ⟨g, 1, none⟩ (.int .i64 ((k : Int) + 1))).cell? ⟨g, 1, none⟩ = some (.int .i64 ((k : Int) + 1)) := World.cell?_setCell_same _ _ _ c1
    have e2 : ((w.drewN nq).setCell ⟨g, 1, none⟩ (.int .i64 ((k : Int) + 1))).cell? ⟨b, o + k, none⟩ = some (.int .u8 (x : Int)) := by
      rw [World.cell?_setCell_other _ _ _ _ (by intro h; injection h with h2; omega)]; exact HCX.out
    have HDN := hid hDN
    have HRO := hid hRO
    have HSZ := hid hSZ
    clear hDN hRO hSZ c0 c1 f1 HNX
    generalize (w.drewN nq).setCell ⟨g, 1, none⟩ (.int .i64 ((k : Int) + 1)) = W at *
    go_quiet (fail)
    go_wp2
    go_ret
    exact ⟨r, ret_int HR.out, hrN, HDN.out.drewN _, HRO.out.drewN _, HSZ.out⟩
  · go_enter Tryz.func22, Tryz.ntmps22
    go_wp2
    go_quiet (fail)
    go_wp2
    go_ret
    exact ⟨0, rfl, by simp; omega, HD.out, (Roll.refl _ _ _).drewN _, rfl⟩
def NewDice (w : World) (e : Ending) (w' : World) : Prop := e = .returned (.pointer (some ⟨w.heap.size, 0, none⟩)) ∧ DiceAt 89 w' w.heap.size ∧ Below w.heap.size w w'
theorem newDice {w : World} {a : Option Addr} {n c m : Nat} (hr : 0 < n → ∃ b o, a = some ⟨b, o, none⟩ ∧ b < w.heap.size ∧ ∀ i, i < n → ∃ x : Nat, x < 256 ∧ w.cell? ⟨b, o + i, none⟩ = some (.int .u8 (x : Int))) (hm : m ≤ n) (h3 : m ≤ 300) :
    NewDice w (.returned (.pointer (some ⟨w.heap.size, 0, none⟩))) (w.alloc (.cells #[.slice a m c, .int .i64 0] 89)) := by
  refine ⟨rfl, ⟨a, m, c, 0, heap_alloc_new _ _, by omega, h3, fun hp => ?_⟩, (Below.refl _ _).alloc (Nat.le_refl _) _⟩
  obtain ⟨b, o, e, hb, hc⟩ := hr (by omega)
  refine ⟨b, o, e, hb, fun i hi => ?_⟩
  obtain ⟨x, hx, hcx⟩ := hc i (by omega)
  exact ⟨x, hx, by rw [World.cell?_alloc_lt _ _ ⟨b, o + i, none⟩ hb]; exact hcx⟩
set_option maxHeartbeats 400000 in
theorem mill_New (a : Option Addr) (n c : Nat) (w : World) (h : RdU w w.heap.size a n c) :
    Calls Tryz.prog 10 #[.slice a n c] w (NewDice w) := by
  obtain ⟨hc, hm, hr⟩ := h
  unfold maxLen at hm
  have HR := hid hr
  clear hr
  by_cases hlt : (300 : Int) < n
  · obtain ⟨b, o, rfl, hb, hcell⟩ := HR.out (by omega)
    have hc3 : 300 ≤ c := by omega
    have HN := hid (newDice (m := 300) (c := c) HR.out (by omega) (by omega))
    clear hcell
    go_enter Tryz.func10, Tryz.ntmps10
    go_wp2
    go_ret
    exact HN.out
  · have HN := hid (newDice (m := n) (c := c) HR.out (Nat.le_refl _) (by omega))
    go_enter Tryz.func10, Tryz.ntmps10
    go_wp2
    go_ret
    exact HN.out
def wordsL : List ByteArray := [⟨#[97, 110, 110]⟩, ⟨#[98, 111, 98]⟩, ⟨#[99, 121]⟩, ⟨#[66, 101, 114, 110]⟩, ⟨#[85, 108, 109]⟩, ⟨#[78, 101, 119, 32, 89, 111, 114, 107]⟩, ⟨#[121, 111, 114, 107, 32, 110, 101, 119]⟩, ⟨#[97, 45, 49]⟩, ⟨#[98, 45, 50, 50]⟩, ⟨#[120]⟩, ⟨#[122, 195, 188, 114, 105, 99, 104]⟩, ⟨#[65, 110, 110]⟩, ⟨#[98, 111]⟩, ⟨#[99, 97, 116]⟩, ⟨#[98, 97, 116]⟩, ⟨#[114, 97, 116]⟩]
def wordsC : Array Value := (wordsL.map Value.string).toArray
set_option maxHeartbeats 400000 in
theorem mill_Words (w : World) :
    Calls Tryz.prog 78 #[] w fun e w' => e = .returned (.slice (some ⟨w.heap.size, 0, none⟩) 16 16) ∧ w' = w.alloc (.cells wordsC 9) := by
  go_enter Tryz.func78, Tryz.ntmps78
  go_wp2
  go_ret
  exact ⟨rfl, rfl⟩
theorem words_cell (w : World) (i : Nat) (h : i < 16) : (w.alloc (.cells wordsC 9)).cell? ⟨w.heap.size, i, none⟩ = some (.string (wordsL.getD i ⟨#[]⟩)) := by
  rw [World.cell?_alloc_at _ _ _ _ rfl]
  have hl : i < wordsL.length := h
  simp [wordsC, List.getD, hl]
end Go.Proofs.YtikiimlmoalbcaaGreatDoor

namespace Go.Proofs.YtikiimlmoalbcaaGreatDoor
open Go.RowKit
def sl (a b : ByteArray) : Bool := Op.bytesLess a.toList b.toList
theorem bl_irrefl : ∀ x : List UInt8, Op.bytesLess x x = false
  | [] => rfl
  | a :: x => by
    rw [Op.bytesLess, bl_irrefl x]
    have : ¬ a < a := UInt8.lt_irrefl a
    simp [this]
theorem bl_trans : ∀ x y z : List UInt8, Op.bytesLess x y = true → Op.bytesLess y z = true → Op.bytesLess x z = true
  | _, [], _, h, _ => by cases ‹List UInt8› <;> simp [Op.bytesLess] at h
  | _, _ :: _, [], _, h => by simp [Op.bytesLess] at h
  | [], _ :: _, _ :: _, _, _ => rfl
  | a :: x, b :: y, c :: z, h1, h2 => by
    have ih := bl_trans x y z
    simp only [Op.bytesLess, Bool.or_eq_true, Bool.and_eq_true, decide_eq_true_eq, beq_iff_eq] at *
    rcases h1 with h1 | ⟨rfl, h1⟩
    · rcases h2 with h2 | ⟨rfl, h2⟩
      · exact .inl (UInt8.lt_trans h1 h2)
      · exact .inl h1
    · rcases h2 with h2 | ⟨rfl, h2⟩
      · exact .inl h2
      · exact .inr ⟨rfl, ih h1 h2⟩
theorem bl_total : ∀ x y : List UInt8, Op.bytesLess x y = true ∨ x = y ∨ Op.bytesLess y x = true
  | [], [] => .inr (.inl rfl)
  | [], _ :: _ => .inl rfl
  | _ :: _, [] => .inr (.inr rfl)
  | a :: x, b :: y => by
    have ih := bl_total x y
    simp only [Op.bytesLess, Bool.or_eq_true, Bool.and_eq_true, decide_eq_true_eq, beq_iff_eq]
    by_cases h : a < b
    · exact .inl (.inl h)
    · by_cases h2 : b < a
      · exact .inr (.inr (.inl h2))
      · have e : a = b := by
          apply UInt8.toNat_inj.1
          have h3 : ¬ a.toNat < b.toNat := fun hh => h (UInt8.lt_iff_toNat_lt.2 hh)
          have h4 : ¬ b.toNat < a.toNat := fun hh => h2 (UInt8.lt_iff_toNat_lt.2 hh)
          omega
        subst e
        rcases ih with ih | rfl | ih
        · exact .inl (.inr ⟨rfl, ih⟩)
        · exact .inr (.inl rfl)
        · exact .inr (.inr (.inr ⟨rfl, ih⟩))
theorem bytes_ext {a b : ByteArray} (h : a.toList = b.toList) : a = b := by
  have h1 : a.data.toList = b.data.toList := by rw [← Lib.toList_data, ← Lib.toList_data]; exact h
  cases a; cases b
  simp only [ByteArray.mk.injEq]
  exact Array.toList_inj.1 h1
theorem sl_irrefl (a : ByteArray) : sl a a = false := bl_irrefl _
theorem sl_trans {a b c : ByteArray} (h : sl a b = true) (h' : sl b c = true) : sl a c = true := bl_trans _ _ _ h h'
theorem sl_total (a b : ByteArray) : sl a b = true ∨ a = b ∨ sl b a = true := by
  rcases bl_total a.toList b.toList with h | h | h
  · exact .inl h
  · exact .inr (.inl (bytes_ext h))
  · exact .inr (.inr h)
def isSet : List ByteArray → Bool
  | a :: b :: l => sl a b && isSet (b :: l)
  | _ => true
theorem isSet_iff : ∀ xs : List ByteArray, isSet xs = true ↔ ∀ i, i + 1 < xs.length → sl (xs.getD i ⟨#[]⟩) (xs.getD (i + 1) ⟨#[]⟩) = true
  | [] => by simp [isSet]
  | [a] => by simp [isSet]
  | a :: b :: l => by
    rw [isSet, Bool.and_eq_true, isSet_iff (b :: l)]
    constructor
    · rintro ⟨h1, h2⟩ i hi
      cases i with
      | zero => exact h1
      | succ i => exact h2 i (by simp at hi ⊢; omega)
    · intro h
      exact ⟨h 0 (by simp), fun i hi => h (i + 1) (by simp at hi ⊢; omega)⟩
theorem isSet_false {xs : List ByteArray} {i : Nat} (hi : i + 1 < xs.length) (h : sl (xs.getD i ⟨#[]⟩) (xs.getD (i + 1) ⟨#[]⟩) = false) : isSet xs = false := by
  cases e : isSet xs with
  | false => rfl
  | true => rw [(isSet_iff xs).1 e i hi] at h; cases h
def before (s : ByteArray) : List ByteArray → Nat
  | [] => 0
  | a :: l => if sl a s then before s l + 1 else 0
def put1 (xs : List ByteArray) (s : ByteArray) : List ByteArray :=
  let k := before s xs
  if k = xs.length ∨ xs.getD k ⟨#[]⟩ ≠ s then xs.take k ++ s :: xs.drop k else xs
def setOfL (l : List ByteArray) : List ByteArray := l.foldl put1 []
theorem before_le (s : ByteArray) : ∀ l, before s l ≤ l.length
  | [] => by simp [before]
  | a :: l => by
    have := before_le s l
    unfold before
    split <;> simp <;> omega
theorem before_lt (s : ByteArray) : ∀ l i, i < before s l → sl (l.getD i ⟨#[]⟩) s = true
  | [], i, h => by simp [before] at h
  | a :: l, i, h => by
    unfold before at h
    split at h
    · rename_i ha
      cases i with
      | zero => simpa using ha
      | succ i => simpa using before_lt s l i (by omega)
    · omega
theorem before_at (s : ByteArray) : ∀ l, before s l < l.length → sl (l.getD (before s l) ⟨#[]⟩) s = false
  | [], h => by simp at h
  | a :: l, h => by
    unfold before at h ⊢
    split
    · rename_i ha
      rw [if_pos ha] at h
      simpa using before_at s l (by simpa using h)
    · rename_i ha
      simpa using ha
theorem put1_length (xs : List ByteArray) (s : ByteArray) : (put1 xs s).length ≤ xs.length + 1 := by
  have := before_le s xs
  unfold put1
  simp only
  split
  · simp; omega
  · omega
theorem put1_mem {xs : List ByteArray} {s x : ByteArray} (h : x ∈ put1 xs s) : x = s ∨ x ∈ xs := by
  unfold put1 at h
  simp only at h
  split at h
  · rw [List.mem_append, List.mem_cons] at h
    rcases h with h | rfl | h
    · exact .inr (List.mem_of_mem_take h)
    · exact .inl rfl
    · exact .inr (List.mem_of_mem_drop h)
  · exact .inr h
def Asc (xs : List ByteArray) : Prop := xs.Pairwise fun a b => sl a b = true
theorem Asc.isSet : ∀ {xs : List ByteArray}, Asc xs → isSet xs = true
  | [], _ => rfl
  | [_], _ => rfl
  | a :: b :: l, h => by
    have h' := List.pairwise_cons.1 h
    rw [Go.Proofs.YtikiimlmoalbcaaGreatDoor.isSet, Bool.and_eq_true]
    exact ⟨h'.1 b (by simp), Asc.isSet h'.2⟩
theorem put1_asc {xs : List ByteArray} {s : ByteArray} (h : Asc xs) : Asc (put1 xs s) := by
  have hb := before_le s xs
  unfold put1
  simp only
  split
  · rename_i hc
    have h1 : Asc (xs.take (before s xs)) := List.Pairwise.sublist (List.take_sublist _ _) h
    have h2 : Asc (xs.drop (before s xs)) := List.Pairwise.sublist (List.drop_sublist _ _) h
    have hlow : ∀ x ∈ xs.take (before s xs), sl x s = true := fun x hx => by
      obtain ⟨i, hi, rfl⟩ := List.mem_iff_getElem.1 hx
      have hi' : i < before s xs := by simp at hi; omega
      have := before_lt s xs i hi'
      rw [List.getElem_take]
      simpa [List.getD, show i < xs.length by omega] using this
    have hhigh : ∀ x ∈ xs.drop (before s xs), sl s x = true := by
      rcases hc with hc | hc
      · intro x hx; rw [hc, List.drop_length] at hx; simp at hx
      · intro x hx
        have hlt : before s xs < xs.length := by
          rcases Nat.lt_or_ge (before s xs) xs.length with h3 | h3
          · exact h3
          · rw [List.drop_eq_nil_of_le h3] at hx; simp at hx
        have hat := before_at s xs hlt
        have hd : xs.drop (before s xs) = xs.getD (before s xs) ⟨#[]⟩ :: xs.drop (before s xs + 1) := by
          rw [List.drop_eq_getElem_cons hlt]; simp [List.getD, hlt]
        rw [hd] at hx h2
        have hs0 : sl s (xs.getD (before s xs) ⟨#[]⟩) = true := by
          rcases sl_total s (xs.getD (before s xs) ⟨#[]⟩) with h4 | h4 | h4
          · exact h4
          · exact absurd h4.symm hc
          · rw [h4] at hat; cases hat
        rcases List.mem_cons.1 hx with rfl | hx
        · exact hs0
        · exact sl_trans hs0 ((List.pairwise_cons.1 h2).1 x hx)
    refine List.pairwise_append.2 ⟨h1, List.pairwise_cons.2 ⟨hhigh, h2⟩, fun x hx y hy => ?_⟩
    rcases List.mem_cons.1 hy with rfl | hy
    · exact hlow x hx
    · exact sl_trans (hlow x hx) (hhigh y hy)
  · exact h
theorem foldl_put1 (l : List ByteArray) : ∀ acc, Asc acc → Asc (l.foldl put1 acc) ∧ (l.foldl put1 acc).length ≤ acc.length + l.length ∧ ∀ x ∈ l.foldl put1 acc, x ∈ acc ∨ x ∈ l := by
  induction l with
  | nil => intro acc h; exact ⟨h, by simp, fun x hx => .inl hx⟩
  | cons a l ih =>
    intro acc h
    obtain ⟨h1, h2, h3⟩ := ih (put1 acc a) (put1_asc h)
    refine ⟨h1, ?_, fun x hx => ?_⟩
    · have := put1_length acc a
      simp only [List.foldl_cons, List.length_cons]
      omega
    · rcases h3 x hx with h4 | h4
      · rcases put1_mem h4 with rfl | h5
        · exact .inr (by simp)
        · exact .inl h5
      · exact .inr (by simp [h4])
theorem setOfL_asc (l : List ByteArray) : Asc (setOfL l) := (foldl_put1 l [] List.Pairwise.nil).1
theorem setOfL_len (l : List ByteArray) : (setOfL l).length ≤ l.length := by
  have := (foldl_put1 l [] List.Pairwise.nil).2.1
  unfold setOfL; simpa using this
theorem setOfL_mem (l : List ByteArray) (x : ByteArray) (h : x ∈ setOfL l) : x ∈ l := by
  rcases (foldl_put1 l [] List.Pairwise.nil).2.2 x h with h | h
  · simp at h
  · exact h
end Go.Proofs.YtikiimlmoalbcaaGreatDoor

namespace Go.Proofs.YtikiimlmoalbcaaGreatDoor
open Go.RowKit
def RdS (w : World) (B : Nat) (v : Value) (xs : List ByteArray) : Prop := Rd w B v xs.length (strF xs)
theorem info_str : (Tryz.prog.info? 9).map (fun i => (i.zero, i.size, i.bytes)) = some (some (.string ⟨#[]⟩), 1, 16) := by kernel_rfl
theorem smap_get {xs : List ByteArray} {i : Nat} (h : i < xs.length) : (xs.map Value.string)[i]? = some (.string (xs.getD i ⟨#[]⟩)) := by simp [List.getD, h]
theorem smap_one (xs : List ByteArray) : ∀ u ∈ xs.map Value.string, u.oneCell' = true := by
  intro u hu
  obtain ⟨_, _, rfl⟩ := List.mem_map.1 hu
  rfl
def GivesS (w : World) (xs : List ByteArray) (e : Ending) (w' : World) : Prop :=
  ∃ a c, e = .returned (.slice a xs.length c) ∧ w'.ownsRow w.heap.size 9 1 (.slice a xs.length c) xs.length (xs.map Value.string) ∧ Below w.heap.size w w'
theorem rdS_of_own {w : World} {base : Nat} {v : Value} {xs : List ByteArray} (h : w.ownsRow base 9 1 v xs.length (xs.map Value.string)) : RdS w w.heap.size v xs :=
  rd_of_owns h _ (fun _ hi => smap_get hi)
theorem own_at {w w' : World} {base : Nat} {e : TypeId} {k n : Nat} {v : Value} {L : List Value} (h : w.ownsRow base e k v n L) (hb : ∀ b, v.ownBlock = some b → w'.heap[b]? = w.heap[b]?) : w'.ownsRow base e k v n L := by
  refine ⟨h.1, ?_⟩
  rcases h.2 with h1 | ⟨g, cap, cur, rfl, h2, h3, rest⟩
  · exact .inl h1
  · exact .inr ⟨g, cap, cur, rfl, h2, (hb g rfl).trans h3, rest⟩
theorem own_later {w w' : World} {base : Nat} {e : TypeId} {k n : Nat} {v : Value} {L : List Value} (h : w.ownsRow base e k v n L) (hb : Below w.heap.size w w') : w'.ownsRow base e k v n L :=
  own_at h fun b hbb => hb.block b (h.lt b hbb).2
end Go.Proofs.YtikiimlmoalbcaaGreatDoor

namespace Go.Proofs.YtikiimlmoalbcaaGreatDoor
open Go.RowKit
set_option maxHeartbeats 1000000 in
theorem text_IsSet (v : Value) (xs : List ByteArray) (B : Nat) (w : World) (hv : RdS w B v xs) :
    Calls Tryz.prog 103 #[v] w (Quiet w (.bool (isSet xs))) := by
  obtain ⟨a, c, rfl, hc, hm, hx⟩ := hv
  have HI := hid (isSet_iff xs)
  have HF := hid (fun i => @isSet_false xs i)
  generalize isSet xs = F at *
  generalize hn : xs.length = n at *
  have HN := hid hn
  have HX := hid hx
  clear hn hx
  unfold maxLen at hm
  go_enter Tryz.func103, Tryz.ntmps103
  go_wp2
  go_loopw [3] (fun i w' => ∃ k : Nat, k ≤ n ∧ i = .int .i64 ((k : Int) + 1) ∧ Hid (∀ j, j < k → j + 1 < n → sl (xs.getD j ⟨#[]⟩) (xs.getD (j + 1) ⟨#[]⟩) = true) ∧ ∃ m, w' = w.drewN m) (fun i _ => n + 1 - (intOf i).toNat)
  case atStart => exact ⟨0, by omega, rfl, hid (fun j h => absurd h (by omega)), 0, rfl⟩
  case round =>
    obtain ⟨k, hk, rfl, hall, m, rfl⟩ := hrel
    by_cases hlt : k + 1 < n
    · obtain ⟨b, o, rfl, hb, hcell⟩ := HX.out (by omega)
      have h1 : w.cell? ⟨b, o + k, none⟩ = some (.string (xs.getD k ⟨#[]⟩)) := hcell k (by omega)
      have h2 : w.cell? ⟨b, o + (k + 1), none⟩ = some (.string (xs.getD (k + 1) ⟨#[]⟩)) := hcell (k + 1) (by omega)
      have HF1 := hid (fun h => HF.out (i := k) h)
      have HALL := hid (fun (h : sl (xs.getD k ⟨#[]⟩) (xs.getD (k + 1) ⟨#[]⟩) = true) (j : Nat) (hj : j < k + 1) (hj2 : j + 1 < n) => (show sl (xs.getD j ⟨#[]⟩) (xs.getD (j + 1) ⟨#[]⟩) = true from by
        rcases Nat.lt_or_ge j k with h3 | h3
        · exact hall.out j h3 hj2
        · obtain rfl : j = k := by omega
          exact h))
      clear hcell hall HF
      generalize hX : xs.getD k ⟨#[]⟩ = x at *
      generalize hY : xs.getD (k + 1) ⟨#[]⟩ = y at *
      clear hX hY
      cases hs : Op.bytesLess x.toList y.toList
      · have HS := hid hs
        go_wp2
        go_quiet (fail)
        go_wp2
        go_ret
        exact ⟨ret_bool (HF1.out (by omega) HS.out).symm, _, World.drewN_drewN _ _ _⟩
      · have HS := hid hs
        go_wp2
        go_quiet (fail)
        go_wp2
        go_roundw
        case rel => exact ⟨k + 1, by omega, by go_num, hid (HALL.out HS.out), _, rfl⟩
        case measure => simp [intOf]; omega
    · have hfin : F = true := HI.out.2 (fun i hi => hall.out i (by omega) (by omega))
      subst hfin
      go_wp2
      go_ret
      exact ⟨rfl, _, rfl⟩
end Go.Proofs.YtikiimlmoalbcaaGreatDoor
