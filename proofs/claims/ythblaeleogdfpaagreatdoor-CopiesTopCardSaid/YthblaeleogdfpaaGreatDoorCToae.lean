/- The kit's dice: their memory; Mod, Next, Word. DERIVED: THE SHELF's CONTRACTS AT THIS DUMP, IN PLAIN WORDS (tools/lay-plain.mjs out of 'YthblaeleogdfpaaGreatDoorShJL.lean', which tools/lay-shelf.mjs wrote): THE SAME DECLARATIONS UNDER THE SAME NAMES: 'import', 'namespace', 'open', 'def', 'theorem' AND NOTHING ELSE: no command of the shelf's: FOR A HAND-IN. Each laying: the table of numbers ('.._ren') and one theorem, a field a fact of the dump's own or the kernel's comparison; each contract: ONE APPLICATION. Contracts of the kit's dice: Cell, Number. Contracts of strings.Builder at this dump. -/
import Derived.IntWalk
import Derived.Lib.LaidTab
import Derived.Shelf.Strconv.Itoa3
import Derived.Test.YthblaeleogdfpaaGreatDoorCToab
import Derived.Test.YthblaeleogdfpaaGreatDoorCToaa
import Derived.Test.YthblaeleogdfpaaGreatDoorProg
import Derived.Shelf.Strings.BuilderK
set_option linter.unusedVariables false
set_option linter.unusedSimpArgs false
namespace Go.Proofs.YthblaeleogdfpaaGreatDoor
open Go.RowKit
def Pow (w : World) : Prop := Lib.TabIs Tryz.prog w "internal/strconv.uint64pow10" .u64 Lib.pow10Tab
theorem pow_named : Tryz.prog.globalNamed "internal/strconv.uint64pow10" = some 3 := by kernel_rfl
theorem Pow.keep {w w' : World} (h : Pow w) (hb : w'.heap[(3 : Nat)]? = w.heap[(3 : Nat)]?) : Pow w' := by
 unfold Pow Lib.TabIs World.var? at *
 rw [pow_named] at *
 simp only [Option.bind_some] at *
 rw [hb]
 exact h
theorem Pow.lt {w : World} (h : Pow w) : 3 < w.heap.size := by
 unfold Pow Lib.TabIs World.var? at h
 rw [pow_named] at h
 simp only [Option.bind_some] at h
 rcases Nat.lt_or_ge 3 w.heap.size with h' | h'
 ·exact h'
 ·rw [Array.getElem?_eq_none h'] at h; cases h
theorem Pow.below {w w' : World} (h : Pow w) {B : Nat} (hb : Below B w w') (hB : w.heap.size ≤ B) : Pow w' := h.keep (hb.block _ (Nat.lt_of_lt_of_le h.lt hB))
def KDice (w : World) (g : Nat) : Prop := (3 < g ∧ Pow w) ∧
  ∃ (a : Option Addr) (n c k : Nat), w.heap[g]? = some (.cells #[.slice a n c, .int .i64 (k : Int)] 88 (0, 0)) ∧ k ≤ n ∧ n ≤ 500 ∧
    (0 < n → ∃ b o, a = some ⟨b, o, none⟩ ∧ b < g ∧ ∀ i, i < n → ∃ z : Int, w.cell? ⟨b, o + i, none⟩ = some (.int .i64 z))
section
variable {w w' : World} {g B : Nat}
theorem KDice.lt (h : KDice w g) : g < w.heap.size := by
 obtain ⟨_, a, n, c, k, hh, _⟩ := h
 exact (Array.getElem?_eq_some_iff.1 hh).1
theorem KDice.pow (h : KDice w g) : Pow w := h.1.2
theorem KDice.keep (h : KDice w g) (hb : ∀ k, k ≤ g → w'.heap[k]? = w.heap[k]?) : KDice w' g := by
 obtain ⟨⟨h0, hp⟩, a, n, c, k, hh, h1, h2, h3⟩ := h
 refine ⟨⟨h0, hp.keep (hb _ (by omega))⟩, a, n, c, k, (hb g (Nat.le_refl _)).trans hh, h1, h2, fun hn => ?_⟩
 obtain ⟨b, o, e, hlt, hc⟩ := h3 hn
 exact ⟨b, o, e, hlt, fun i hi => by
  obtain ⟨x, hcx⟩ := hc i hi
  exact ⟨x, (World.cell?_of_block (hb b (by omega))).trans hcx⟩⟩
theorem KDice.below (h : KDice w g) (hb : Below B w w') (hB : g < B) : KDice w' g := h.keep fun k hk => hb.block k (by omega)
theorem KDice.drewN (h : KDice w g) (n : Nat) : KDice (w.drewN n) g := h.keep fun _ _ => rfl
theorem KDice.drew (h : KDice w g) : KDice w.drew g := h.keep fun _ _ => rfl
theorem KDice.alloc (h : KDice w g) (o : Obj) : KDice (w.alloc o) g := h.below ((Below.refl _ _).alloc (Nat.le_refl _) o) h.lt
theorem KDice.store (h : KDice w g) {p : Addr} (hp : g < p.block) (u : Value) : KDice (w.setCell p u) g := h.keep fun k hk => Below.heap_setCell _ _ _ _ (by omega)
theorem KDice.next {a : Option Addr} {n c k : Nat} (h0 : 3 < g ∧ Pow w) (hh : w.heap[g]? = some (.cells #[.slice a n c, .int .i64 (k : Int)] 88 (0, 0))) (h1 : k < n) (h2 : n ≤ 500)
  (h3 : 0 < n → ∃ b o, a = some ⟨b, o, none⟩ ∧ b < g ∧ ∀ i, i < n → ∃ z : Int, w.cell? ⟨b, o + i, none⟩ = some (.int .i64 z)) : KDice (w.setCell ⟨g, 1, none⟩ (.int .i64 ((k : Int) + 1))) g := by
 refine ⟨⟨h0.1, h0.2.keep (Below.heap_setCell _ _ _ _ (by have := h0.1; show _ ≠ g; omega))⟩, a, n, c, k + 1, ?_, h1, h2, fun hn => ?_⟩
 ·rw [show (((k + 1 : Nat) : Int)) = (k : Int) + 1 from by omega]
  simp [World.setCell, Array.getElem?_modify, hh]
 ·obtain ⟨b, o, e, hlt, hc⟩ := h3 hn
  refine ⟨b, o, e, hlt, fun i hi => ?_⟩
  obtain ⟨x, hcx⟩ := hc i hi
  refine ⟨x, ?_⟩
  rw [World.cell?_setCell_other, hcx]
  intro e2
  injection e2 with e3
  omega
end
theorem tmod_twice (n m : Int) (hm : 1 ≤ m) : -m < Int.tmod n m ∧ Int.tmod n m < m ∧ Int.tmod n m % m = n % m := by
 have h1 := Int.emod_nonneg n (show m ≠ 0 by omega)
 have h2 := Int.emod_lt_of_pos n (show 0 < m by omega)
 have h3 : Int.tmod n m = n % m ∨ Int.tmod n m = n % m - m := by
  rw [Int.tmod_eq_emod]
  split
  ·left; omega
  ·right; omega
 have hz : Int.tmod n m = n % m - m → 0 < n % m := by
  intro h
  rcases Int.lt_or_le 0 n with hn | hn
  ·have := Int.tmod_nonneg m (show 0 ≤ n by omega)
   omega
  ·have h4 : m ∣ n → Int.tmod n m = 0 := fun hd => Int.tmod_eq_zero_of_dvd hd
   by_cases hd : m ∣ n
   ·have := h4 hd
    have := Int.emod_eq_zero_of_dvd hd
    omega
   ·have : n % m ≠ 0 := fun h => hd (Int.dvd_of_emod_eq_zero h)
    omega
 refine ⟨?_, ?_, ?_⟩
 ·rcases h3 with h | h
  ·omega
  ·have := hz h; omega
 ·rcases h3 with h | h <;> omega
 ·rcases h3 with h | h
  ·rw [h, Int.emod_emod_of_dvd _ (Int.dvd_refl _)]
  ·rw [h, Int.sub_emod_right, Int.emod_emod_of_dvd _ (Int.dvd_refl _)]
set_option maxHeartbeats 400000 in
theorem kit_Mod (n m : Int) (hm : 1 ≤ m) (hm2 : m ≤ 1099511627776) (w : World) : Calls Tryz.prog 24 #[.int .i64 n, .int .i64 m] w (fun e w' => e = .returned (.int .i64 (n % m)) ∧ w = w') := by
 obtain ⟨h1, h2, h3⟩ := tmod_twice n m hm
 have HM := hid h3
 clear h3
 have hm0 : ¬ m < 1 := by omega
 have hd : decide (m < 1) = false := decide_eq_false hm0
 have hne : ¬ m = 0 := by omega
 generalize hr : Int.tmod n m = r at *
 have hw1 : IntKind.i64.wrap r = r := IntWalk.i64_in _ (by omega)
 have hw2 : IntKind.i64.wrap (r + m) = r + m := IntWalk.i64_in _ (by omega)
 go_enter Tryz.func24, Tryz.ntmps24
 go_wp2_with fail
 go_ret
 exact ⟨ret_int HM.out, rfl⟩
theorem kit_Mod0 (n m : Int) (hm : m < 1) (w : World) : Calls Tryz.prog 24 #[.int .i64 n, .int .i64 m] w (fun e w' => e = .returned (.int .i64 0) ∧ w = w') := by
 have hd : decide (m < 1) = true := decide_eq_true hm
 go_enter Tryz.func24, Tryz.ntmps24
 go_wp2_with fail
 go_ret
 exact ⟨rfl, rfl⟩
def KPick (w : World) (g : Nat) (N : Int) (e : Ending) (w' : World) : Prop :=
  ∃ m : Nat, e = .returned (.int .i64 (m : Int)) ∧ (m : Int) < max N 1 ∧ KDice w' g ∧ Roll w.heap.size g w w' ∧ w'.heap.size = w.heap.size
theorem kit_ModN (z N : Int) (h1 : 0 ≤ N) (h2 : N ≤ 1099511627776) : ∃ m : Nat, (m : Int) < max N 1 ∧ ∀ w, Calls Tryz.prog 24 #[.int .i64 z, .int .i64 N] w (fun e w' => e = .returned (.int .i64 (m : Int)) ∧ w = w') := by
 by_cases h : 1 ≤ N
 ·have hlo : 0 ≤ z % N := Int.emod_nonneg _ (by omega)
  have hhi : z % N < N := Int.emod_lt_of_pos _ (by omega)
  refine ⟨(z % N).toNat, by omega, fun w => ?_⟩
  rw [show (((z % N).toNat : Nat) : Int) = z % N by omega]
  exact kit_Mod z N h h2 w
 ·exact ⟨0, by omega, fun w => kit_Mod0 z N (by omega) w⟩
set_option maxHeartbeats 1000000 in
theorem kit_Next (g : Nat) (N : Int) (w : World) (hd : KDice w g) (h1 : 0 ≤ N) (h2 : N ≤ 1099511627776) :
  Calls Tryz.prog 40 #[.pointer (some ⟨g, 0, none⟩), .int .i64 N] w (KPick w g N) := by
 have HD := hid hd
 obtain ⟨h0, a, n, c, k, hh, hk, hn, hs⟩ := hd
 have H0 := hid h0
 clear h0
 have HH := hid hh
 have HS := hid hs
 have c0 : w.cell? ⟨g, 0, none⟩ = some (.slice a n c) := by rw [cell_of_row w g 0 _ _ _ hh]; rfl
 have c1 : w.cell? ⟨g, 1, none⟩ = some (.int .i64 (k : Int)) := by rw [cell_of_row w g 1 _ _ _ hh]; rfl
 have f1 : w.frozen? ⟨g, 1, none⟩ = false := by simp [World.frozen?, hh]
 clear hh hs
 by_cases hlt : k < n
 ·obtain ⟨b, o, rfl, hbg, hc⟩ := HS.out (by omega)
  obtain ⟨z, hcx⟩ := hc k hlt
  obtain ⟨r, hrN, hmod⟩ := kit_ModN z N h1 h2
  have HMD := hid hmod
  have HNX := hid (fun q : Nat => KDice.next (w := w.drewN q) ⟨H0.out.1, H0.out.2.keep rfl⟩ HH.out hlt hn HS.out)
  have hne : b ≠ g := by omega
  have HCX := hid hcx
  have HRN := hid hrN
  clear hc hcx hmod hrN
  go_enter Tryz.func40, Tryz.ntmps40
  go_wp2
  go_quiet (fail)
  go_wp2
  have hDN := HNX.out nq
  have hRO : Roll w.heap.size g w ((w.drewN nq).setCell ⟨g, 1, none⟩ (.int .i64 ((k : Int) + 1))) := ((Roll.refl w.heap.size g w).drewN nq).setCell (p := ⟨g, 1, none⟩) rfl _
  have hSZ : ((w.drewN nq).setCell ⟨g, 1, none⟩ (.int .i64 ((k : Int) + 1))).heap.size = w.heap.size := by simp
  have e0 : ((w.drewN nq).setCell ⟨g, 1, none⟩ (.int .i64 ((k : Int) + 1))).cell? ⟨g, 0, none⟩ = some (.slice (some ⟨b, o, none⟩) n c) := by
   rw [World.cell?_setCell_other _ _ _ _ (by intro h; injection h with _ h2; omega)]; exact c0
  have e1 : ((w.drewN nq).setCell ⟨g, 1, none⟩ (.int .i64 ((k : Int) + 1))).cell? ⟨g, 1, none⟩ = some (.int .i64 ((k : Int) + 1)) := World.cell?_setCell_same _ _ _ c1
  have e2 : ((w.drewN nq).setCell ⟨g, 1, none⟩ (.int .i64 ((k : Int) + 1))).cell? ⟨b, o + k, none⟩ = some (.int .i64 z) := by
   rw [World.cell?_setCell_other _ _ _ _ (by intro h; injection h with h2; omega)]; exact HCX.out
  have HDN := hid hDN
  have HRO := hid hRO
  have HSZ := hid hSZ
  clear hDN hRO hSZ c0 c1 f1 HNX
  generalize (w.drewN nq).setCell ⟨g, 1, none⟩ (.int .i64 ((k : Int) + 1)) = W at *
  go_quiet ((go_at_call 24; exact Calls.quiet_of_same ((HMD.out _).mono (fun _ _ h => ⟨h.1, h.2.symm⟩))))
  go_wp2
  go_ret
  exact ⟨r, rfl, HRN.out, HDN.out.drewN _, HRO.out.drewN _, HSZ.out⟩
 ·go_enter Tryz.func40, Tryz.ntmps40
  go_wp2
  go_quiet (fail)
  go_wp2
  go_ret
  exact ⟨0, rfl, by simp; omega, HD.out, (Roll.refl _ _ _).drewN _, rfl⟩
def KWord (w : World) (g : Nat) (l : List ByteArray) (e : Ending) (w' : World) : Prop :=
  ∃ s : ByteArray, e = .returned (.string s) ∧ s ∈ l ∧ KDice w' g ∧ Roll w.heap.size g w w' ∧ w'.heap.size = w.heap.size
set_option maxHeartbeats 1000000 in
theorem kit_Word (g b n : Nat) (l : List ByteArray) (w : World) (hd : KDice w g) (hb : BoxN w b 9 (l.map Value.string).toArray) (hne : b ≠ g) (hn : n = l.length) (h1 : 1 ≤ n) (h2 : n ≤ 100) :
  Calls Tryz.prog 25 #[.pointer (some ⟨g, 0, none⟩), .slice (some ⟨b, 0, none⟩) n n] w (KWord w g l) := by
 have HB := hid hb
 have HD := hid hd
 have HL := hid hn
 have hbl := hb.lt
 clear hb hd hn
 go_enter Tryz.func25, Tryz.ntmps25
 go_wp2_with fail
 with_reducible refine (kit_Next g _ _ HD.out (by omega) (by omega)).mono ?_
 rintro e w1 ⟨m, rfl, hm, hd1, hr1, hs1⟩
 have hmn : m < n := by omega
 have hml : m < l.length := by rw [← HL.out]; exact hmn
 have c1 : w1.cell? ⟨b, m, none⟩ = some (.string (l.getD m ⟨#[]⟩)) := (HB.out.roll hr1 hbl hne).cell m (by simp [List.getD, hml])
 have HM := hid (show l.getD m ⟨#[]⟩ ∈ l by rw [List.getD, List.getElem?_eq_getElem hml]; exact List.getElem_mem hml)
 have HD1 := hid hd1
 have HR1 := hid hr1
 have HS1 := hid hs1
 clear hd1 hr1 hs1 hml
 generalize l.getD m ⟨#[]⟩ = s at *
 go_wp2
 go_ret
 exact ⟨s, rfl, HM.out, HD1.out, HR1.out, HS1.out⟩
end Go.Proofs.YthblaeleogdfpaaGreatDoor

namespace Go.Proofs
open Go.Shelf
def Tryz.layItoaM_ren : Go.Shelf.Ren := ⟨fun | 171 => 94 | 243 => 140 | 246 => 198 | 283 => 258 | 284 => 259 | 285 => 260 | 286 => 261 | 129 => 151 | 317 => 284 | 318 => 285 | 319 => 286 | 320 => 287 | 337 => 294 | 338 => 295 | n => n, fun | 3 => 3 | 9 => 9 | 2 => 2 | 4 => 4 | 171 => 266 | 0 => 0 | 53 => 194 | 37 => 61 | 5 => 5 | 173 => 268 | 212 => 293 | 51 => 157 | 20 => 20 | 213 => 294 | 46 => 143 | 232 => 300 | 233 => 301 | n => n, fun | 17 => 3 | 18 => 5 | 19 => 6 | n => n⟩
theorem Tryz.layItoaM : Go.Proofs.LaysM.n171 Tryz.prog Tryz.layItoaM_ren := {
 mixed := by kernel_rfl
 f129 := Tryz.func151.trans (congrArg some (by kernel_rfl))
 f171 := Tryz.func94.trans (congrArg some (by kernel_rfl))
 f243 := Tryz.func140.trans (congrArg some (by kernel_rfl))
 f246 := Tryz.func198.trans (congrArg some (by kernel_rfl))
 f283 := Tryz.func258.trans (congrArg some (by kernel_rfl))
 f284 := Tryz.func259.trans (congrArg some (by kernel_rfl))
 f285 := Tryz.func260.trans (congrArg some (by kernel_rfl))
 f286 := Tryz.func261.trans (congrArg some (by kernel_rfl))
 f317 := Tryz.func284.trans (congrArg some (by kernel_rfl))
 f318 := Tryz.func285.trans (congrArg some (by kernel_rfl))
 f319 := Tryz.func286.trans (congrArg some (by kernel_rfl))
 f320 := Tryz.func287.trans (congrArg some (by kernel_rfl))
 f337 := Tryz.func294.trans (congrArg some (by kernel_rfl))
 f338 := Tryz.func295.trans (congrArg some (by kernel_rfl))
 t0 := Tryz.underlying0
 a0 := Tryz.isAgg0
 z0 := Tryz.sizeOf0
 v0 := Tryz.zeroValue0
 t2 := Tryz.underlying2
 a2 := Tryz.isAgg2
 z2 := Tryz.sizeOf2
 v2 := Tryz.zeroValue2
 t3 := Tryz.underlying3
 a3 := Tryz.isAgg3
 z3 := Tryz.sizeOf3
 v3 := Tryz.zeroValue3
 t4 := Tryz.underlying4
 a4 := Tryz.isAgg4
 z4 := Tryz.sizeOf4
 v4 := Tryz.zeroValue4
 t5 := Tryz.underlying5
 a5 := Tryz.isAgg5
 z5 := Tryz.sizeOf5
 v5 := Tryz.zeroValue5
 t9 := Tryz.underlying9
 a9 := Tryz.isAgg9
 z9 := Tryz.sizeOf9
 v9 := Tryz.zeroValue9
 t20 := Tryz.underlying20
 a20 := Tryz.isAgg20
 z20 := Tryz.sizeOf20
 v20 := Tryz.zeroValue20
 t37 := Tryz.underlying61
 a37 := Tryz.isAgg61
 z37 := Tryz.sizeOf61
 v37 := Tryz.zeroValue61
 t46 := Tryz.underlying143
 a46 := Tryz.isAgg143
 z46 := Tryz.sizeOf143
 v46 := Tryz.zeroValue143
 t51 := Tryz.underlying157
 a51 := Tryz.isAgg157
 z51 := Tryz.sizeOf157
 v51 := Tryz.zeroValue157
 t53 := Tryz.underlying194
 a53 := Tryz.isAgg194
 z53 := Tryz.sizeOf194
 v53 := Tryz.zeroValue194
 t171 := Tryz.underlying266
 a171 := Tryz.isAgg266
 z171 := Tryz.sizeOf266
 v171 := Tryz.zeroValue266
 t173 := Tryz.underlying268
 a173 := Tryz.isAgg268
 z173 := Tryz.sizeOf268
 v173 := Tryz.zeroValue268
 t212 := Tryz.underlying293
 a212 := Tryz.isAgg293
 z212 := Tryz.sizeOf293
 v212 := Tryz.zeroValue293
 t213 := Tryz.underlying294
 a213 := Tryz.isAgg294
 z213 := Tryz.sizeOf294
 t232 := Tryz.underlying300
 a232 := Tryz.isAgg300
 z232 := Tryz.sizeOf300
 v232 := Tryz.zeroValue300
 t233 := Tryz.underlying301
 a233 := Tryz.isAgg301
 z233 := Tryz.sizeOf301
 v233 := Tryz.zeroValue301
 g17 := by kernel_rfl
 g18 := by kernel_rfl
 g19 := by kernel_rfl
 i0 := by kernel_rfl
 i2 := by kernel_rfl
 i3 := by kernel_rfl
 i4 := by kernel_rfl
 i5 := by kernel_rfl
 i9 := by kernel_rfl
 i20 := by kernel_rfl
 i37 := by kernel_rfl
 i46 := by kernel_rfl
 i51 := by kernel_rfl
 i53 := by kernel_rfl
 i171 := by kernel_rfl
 i173 := by kernel_rfl
 i212 := by kernel_rfl
 i232 := by kernel_rfl
 i233 := by kernel_rfl
 m17 := by kernel_rfl
 m18 := by kernel_rfl
 m19 := by kernel_rfl }
end Go.Proofs

namespace Go.Proofs.YthblaeleogdfpaaGreatDoor
open Go.RowKit
theorem below_grow {w : World} (k : Nat) (os : Array Obj) : Below w.heap.size w (Sort.grow (w.drewN k) os) :=
 ⟨rfl, rfl, rfl, by simp [Sort.grow], fun i hi => Sort.heap_grow_old (w.drewN k) os hi⟩
theorem kit_itoa (n : Int) (h0 : -100 ≤ n) (h1 : n ≤ 100) (w : World) (hp : Pow w) :
  Calls Tryz.prog 94 #[.int .i64 n] w (fun e w' => e = .returned (.string ⟨(Lib.itoa n).toArray⟩) ∧ Below w.heap.size w w') :=
 (Any.strconv_Itoa Tryz.layItoaM n (by omega) (by omega) w hp).mono fun e w' ⟨h, k, os, e2⟩ => ⟨h, by rw [e2]; exact below_grow k os⟩
theorem itoa_ok12 : ∀ i : Fin 12, TextOk 8 ⟨(Lib.itoa ((i : Int) - 3)).toArray⟩ := by unfold TextOk; decide +kernel
def KCell (w : World) (g : Nat) (e : Ending) (w' : World) : Prop :=
  ∃ c : Cl, e = .returned (.agg #[.bool c.null, .string c.text]) ∧ CellOk c ∧ KDice w' g ∧ Roll w.heap.size g w w'
def cellTexts : List ByteArray := [⟨#[97]⟩, ⟨#[98]⟩, ⟨#[99]⟩, ⟨#[49]⟩, ⟨#[50]⟩, ⟨#[51]⟩, ⟨#[49, 48]⟩, ⟨#[120]⟩, ⟨#[45, 49, 46, 53]⟩, ⟨#[50]⟩]
theorem cellTexts_ok : ∀ x ∈ cellTexts, TextOk 8 x := by unfold TextOk; decide +kernel
def numTexts : List ByteArray := [⟨#[120]⟩, ⟨#[]⟩, ⟨#[49, 46, 50, 46, 51]⟩, ⟨#[49, 46, 53, 48]⟩]
theorem numTexts_ok : ∀ x ∈ numTexts, TextOk 8 x := by unfold TextOk; decide +kernel
set_option maxHeartbeats 1000000 in
theorem kit_Cell (g : Nat) (w : World) (hd : KDice w g) :
  Calls Tryz.prog 92 #[.pointer (some ⟨g, 0, none⟩)] w (KCell w g) := by
 have hgl := hd.lt
 have HD := hid hd
 clear hd
 go_enter Tryz.func92, Tryz.ntmps92
 go_wp2_with fail
 have hd0 : KDice (w.alloc (.cells #[.bool false, .string ⟨#[]⟩] 104)) g := HD.out.alloc _
 have hr0 : Roll w.heap.size g w (w.alloc (.cells #[.bool false, .string ⟨#[]⟩] 104)) := (Roll.refl _ _ _).alloc (Nat.le_refl _) _
 have hb0 := BoxN.new w #[.bool false, .string ⟨#[]⟩] 104
 with_reducible refine (kit_Next g _ _ hd0 (by omega) (by omega)).mono ?_
 rintro e w1 ⟨m, rfl, hm, hd1, hr1, hs1⟩
 have HB1 := hid (hb0.roll hr1 (by simp) (by omega))
 have HR1 := hid (hr0.trans (hr1.mono (by simp)))
 have HD1 := hid hd1
 have hz1 := HB1.out.lt
 clear hd0 hr0 hb0 hd1 hr1 hs1 hm
 by_cases h0 : m = 1
 ·subst h0
  have c0 := HB1.out.cell 0 rfl
  have c1 := HB1.out.cell 1 rfl
  have f0 := HB1.out.frozen 0
  have f1 := HB1.out.frozen 1
  go_wp2
  refine bodyPost_ret (by simp [results, Tryz.results92, go_sem, c0, c1]; rfl) rfl ?_
  exact ⟨⟨true, ⟨#[]⟩⟩, rfl, cellOk_null, HD1.out.below (B := w.heap.size) (by have := Below.refl w.heap.size w1; repeat' (first | (with_reducible exact Below.refl _ _) | (with_reducible assumption) | (with_reducible refine below_drewN ?_) | (with_reducible refine Below.alloc ?_ ?_ _) | (with_reducible refine Below.drew ?_) | (with_reducible refine Below.setCell ?_ ?_ _) | (with_reducible refine Below.trans ?_ (Below.mono (by with_reducible assumption) ?_)) | go_size)) hgl, HR1.out.trans (Roll.of_below (by repeat' (first | (with_reducible exact Below.refl _ _) | (with_reducible assumption) | (with_reducible refine below_drewN ?_) | (with_reducible refine Below.alloc ?_ ?_ _) | (with_reducible refine Below.drew ?_) | (with_reducible refine Below.setCell ?_ ?_ _) | (with_reducible refine Below.trans ?_ (Below.mono (by with_reducible assumption) ?_)) | go_size)) g)⟩
 ·have hq1 : ((m : Int) == 1) = false := by simp; omega
  have hq2 : ¬ (m : Int) = 1 := by omega
  go_wp2_with fail
  have hd2 := HD1.out.alloc (.cells #[.string ⟨#[97]⟩, .string ⟨#[98]⟩, .string ⟨#[99]⟩, .string ⟨#[49]⟩, .string ⟨#[50]⟩, .string ⟨#[51]⟩, .string ⟨#[49, 48]⟩, .string ⟨#[120]⟩, .string ⟨#[45, 49, 46, 53]⟩, .string ⟨#[50]⟩] 9)
  have hb2 := HB1.out.alloc (.cells #[.string ⟨#[97]⟩, .string ⟨#[98]⟩, .string ⟨#[99]⟩, .string ⟨#[49]⟩, .string ⟨#[50]⟩, .string ⟨#[51]⟩, .string ⟨#[49, 48]⟩, .string ⟨#[120]⟩, .string ⟨#[45, 49, 46, 53]⟩, .string ⟨#[50]⟩] 9)
  have hw2 : BoxN (w1.alloc (.cells #[.string ⟨#[97]⟩, .string ⟨#[98]⟩, .string ⟨#[99]⟩, .string ⟨#[49]⟩, .string ⟨#[50]⟩, .string ⟨#[51]⟩, .string ⟨#[49, 48]⟩, .string ⟨#[120]⟩, .string ⟨#[45, 49, 46, 53]⟩, .string ⟨#[50]⟩] 9)) w1.heap.size 9 (cellTexts.map Value.string).toArray := BoxN.new w1 #[.string ⟨#[97]⟩, .string ⟨#[98]⟩, .string ⟨#[99]⟩, .string ⟨#[49]⟩, .string ⟨#[50]⟩, .string ⟨#[51]⟩, .string ⟨#[49, 48]⟩, .string ⟨#[120]⟩, .string ⟨#[45, 49, 46, 53]⟩, .string ⟨#[50]⟩] 9
  have hr2 := HR1.out.alloc (by omega) (.cells #[.string ⟨#[97]⟩, .string ⟨#[98]⟩, .string ⟨#[99]⟩, .string ⟨#[49]⟩, .string ⟨#[50]⟩, .string ⟨#[51]⟩, .string ⟨#[49, 48]⟩, .string ⟨#[120]⟩, .string ⟨#[45, 49, 46, 53]⟩, .string ⟨#[50]⟩] 9)
  have hz2 : (w1.alloc (.cells #[.string ⟨#[97]⟩, .string ⟨#[98]⟩, .string ⟨#[99]⟩, .string ⟨#[49]⟩, .string ⟨#[50]⟩, .string ⟨#[51]⟩, .string ⟨#[49, 48]⟩, .string ⟨#[120]⟩, .string ⟨#[45, 49, 46, 53]⟩, .string ⟨#[50]⟩] 9)).heap.size = w1.heap.size + 1 := by simp
  with_reducible refine (kit_Word g w1.heap.size 10 cellTexts _ hd2 hw2 (by omega) rfl (by omega) (by omega)).mono ?_
  generalize (w1.alloc (.cells #[.string ⟨#[97]⟩, .string ⟨#[98]⟩, .string ⟨#[99]⟩, .string ⟨#[49]⟩, .string ⟨#[50]⟩, .string ⟨#[51]⟩, .string ⟨#[49, 48]⟩, .string ⟨#[120]⟩, .string ⟨#[45, 49, 46, 53]⟩, .string ⟨#[50]⟩] 9)) = W2 at *
  rintro e w3 ⟨s, rfl, hs, hd3, hr3, hs3⟩
  have HB3 := hid (hb2.roll hr3 (by omega) (by omega))
  have HR3 := hid (hr2.trans (hr3.mono (by omega)))
  have HD3 := hid hd3
  have HOK := hid (cellTexts_ok _ hs)
  have c0 := HB3.out.cell 0 rfl
  have c1 := HB3.out.cell 1 rfl
  have f0 := HB3.out.frozen 0
  have f1 := HB3.out.frozen 1
  clear hd2 hb2 hw2 hr2 hs hd3 hr3 hq1 hq2
  go_wp2
  refine bodyPost_ret (by simp [results, Tryz.results92, go_sem, c0, c1]; rfl) rfl ?_
  exact ⟨⟨false, s⟩, rfl, cellOk_text HOK.out, HD3.out.below (B := w.heap.size) (by have := Below.refl w.heap.size w3; repeat' (first | (with_reducible exact Below.refl _ _) | (with_reducible assumption) | (with_reducible refine below_drewN ?_) | (with_reducible refine Below.alloc ?_ ?_ _) | (with_reducible refine Below.drew ?_) | (with_reducible refine Below.setCell ?_ ?_ _) | (with_reducible refine Below.trans ?_ (Below.mono (by with_reducible assumption) ?_)) | go_size)) hgl, HR3.out.trans (Roll.of_below (by repeat' (first | (with_reducible exact Below.refl _ _) | (with_reducible assumption) | (with_reducible refine below_drewN ?_) | (with_reducible refine Below.alloc ?_ ?_ _) | (with_reducible refine Below.drew ?_) | (with_reducible refine Below.setCell ?_ ?_ _) | (with_reducible refine Below.trans ?_ (Below.mono (by with_reducible assumption) ?_)) | go_size)) g)⟩
set_option maxHeartbeats 1000000 in
theorem kit_Number (g : Nat) (w : World) (hd : KDice w g) :
  Calls Tryz.prog 93 #[.pointer (some ⟨g, 0, none⟩)] w (KCell w g) := by
 have hgl := hd.lt
 have HD := hid hd
 clear hd
 go_enter Tryz.func93, Tryz.ntmps93
 go_wp2_with fail
 have hd0 : KDice (w.alloc (.cells #[.bool false, .string ⟨#[]⟩] 104)) g := HD.out.alloc _
 have hr0 : Roll w.heap.size g w (w.alloc (.cells #[.bool false, .string ⟨#[]⟩] 104)) := (Roll.refl _ _ _).alloc (Nat.le_refl _) _
 have hb0 := BoxN.new w #[.bool false, .string ⟨#[]⟩] 104
 with_reducible refine (kit_Next g _ _ hd0 (by omega) (by omega)).mono ?_
 rintro e w1 ⟨m, rfl, hm, hd1, hr1, hs1⟩
 have HB1 := hid (hb0.roll hr1 (by simp) (by omega))
 have HR1 := hid (hr0.trans (hr1.mono (by simp)))
 have HD1 := hid hd1
 have hz1 := HB1.out.lt
 clear hd0 hr0 hb0 hd1 hr1 hs1 hm
 by_cases h0 : m = 1
 ·subst h0
  have c0 := HB1.out.cell 0 rfl
  have c1 := HB1.out.cell 1 rfl
  have f0 := HB1.out.frozen 0
  have f1 := HB1.out.frozen 1
  go_wp2
  refine bodyPost_ret (by simp [results, Tryz.results93, go_sem, c0, c1]; rfl) rfl ?_
  exact ⟨⟨true, ⟨#[]⟩⟩, rfl, cellOk_null, HD1.out.below (B := w.heap.size) (by have := Below.refl w.heap.size w1; repeat' (first | (with_reducible exact Below.refl _ _) | (with_reducible assumption) | (with_reducible refine below_drewN ?_) | (with_reducible refine Below.alloc ?_ ?_ _) | (with_reducible refine Below.drew ?_) | (with_reducible refine Below.setCell ?_ ?_ _) | (with_reducible refine Below.trans ?_ (Below.mono (by with_reducible assumption) ?_)) | go_size)) hgl, HR1.out.trans (Roll.of_below (by repeat' (first | (with_reducible exact Below.refl _ _) | (with_reducible assumption) | (with_reducible refine below_drewN ?_) | (with_reducible refine Below.alloc ?_ ?_ _) | (with_reducible refine Below.drew ?_) | (with_reducible refine Below.setCell ?_ ?_ _) | (with_reducible refine Below.trans ?_ (Below.mono (by with_reducible assumption) ?_)) | go_size)) g)⟩
 ·have hq1 : ((m : Int) == 1) = false := by simp; omega
  have hq2 : ¬ (m : Int) = 1 := by omega
  by_cases h2 : m = 2
  ·subst h2
   go_wp2_with fail
   have hd2 := HD1.out.alloc (.cells #[.string ⟨#[120]⟩, .string ⟨#[]⟩, .string ⟨#[49, 46, 50, 46, 51]⟩, .string ⟨#[49, 46, 53, 48]⟩] 9)
   have hb2 := HB1.out.alloc (.cells #[.string ⟨#[120]⟩, .string ⟨#[]⟩, .string ⟨#[49, 46, 50, 46, 51]⟩, .string ⟨#[49, 46, 53, 48]⟩] 9)
   have hw2 : BoxN (w1.alloc (.cells #[.string ⟨#[120]⟩, .string ⟨#[]⟩, .string ⟨#[49, 46, 50, 46, 51]⟩, .string ⟨#[49, 46, 53, 48]⟩] 9)) w1.heap.size 9 (numTexts.map Value.string).toArray := BoxN.new w1 #[.string ⟨#[120]⟩, .string ⟨#[]⟩, .string ⟨#[49, 46, 50, 46, 51]⟩, .string ⟨#[49, 46, 53, 48]⟩] 9
   have hr2 := HR1.out.alloc (by omega) (.cells #[.string ⟨#[120]⟩, .string ⟨#[]⟩, .string ⟨#[49, 46, 50, 46, 51]⟩, .string ⟨#[49, 46, 53, 48]⟩] 9)
   have hz2 : (w1.alloc (.cells #[.string ⟨#[120]⟩, .string ⟨#[]⟩, .string ⟨#[49, 46, 50, 46, 51]⟩, .string ⟨#[49, 46, 53, 48]⟩] 9)).heap.size = w1.heap.size + 1 := by simp
   with_reducible refine (kit_Word g w1.heap.size 4 numTexts _ hd2 hw2 (by omega) rfl (by omega) (by omega)).mono ?_
   generalize (w1.alloc (.cells #[.string ⟨#[120]⟩, .string ⟨#[]⟩, .string ⟨#[49, 46, 50, 46, 51]⟩, .string ⟨#[49, 46, 53, 48]⟩] 9)) = W2 at *
   rintro e w3 ⟨s, rfl, hs, hd3, hr3, hs3⟩
   have HB3 := hid (hb2.roll hr3 (by omega) (by omega))
   have HR3 := hid (hr2.trans (hr3.mono (by omega)))
   have HD3 := hid hd3
   have HOK := hid (numTexts_ok _ hs)
   have c0 := HB3.out.cell 0 rfl
   have c1 := HB3.out.cell 1 rfl
   have f0 := HB3.out.frozen 0
   have f1 := HB3.out.frozen 1
   clear hd2 hb2 hw2 hr2 hs hd3 hr3 hq1 hq2
   go_wp2
   refine bodyPost_ret (by simp [results, Tryz.results93, go_sem, c0, c1]; rfl) rfl ?_
   exact ⟨⟨false, s⟩, rfl, cellOk_text HOK.out, HD3.out.below (B := w.heap.size) (by have := Below.refl w.heap.size w3; repeat' (first | (with_reducible exact Below.refl _ _) | (with_reducible assumption) | (with_reducible refine below_drewN ?_) | (with_reducible refine Below.alloc ?_ ?_ _) | (with_reducible refine Below.drew ?_) | (with_reducible refine Below.setCell ?_ ?_ _) | (with_reducible refine Below.trans ?_ (Below.mono (by with_reducible assumption) ?_)) | go_size)) hgl, HR3.out.trans (Roll.of_below (by repeat' (first | (with_reducible exact Below.refl _ _) | (with_reducible assumption) | (with_reducible refine below_drewN ?_) | (with_reducible refine Below.alloc ?_ ?_ _) | (with_reducible refine Below.drew ?_) | (with_reducible refine Below.setCell ?_ ?_ _) | (with_reducible refine Below.trans ?_ (Below.mono (by with_reducible assumption) ?_)) | go_size)) g)⟩
  ·have hq3 : ((m : Int) == 2) = false := by simp; omega
   have hq4 : ¬ (m : Int) = 2 := by omega
   go_wp2_with fail
   with_reducible refine (kit_Next g _ _ HD1.out (by omega) (by omega)).mono ?_
   rintro e w3 ⟨r, rfl, hr, hd3, hr3, hs3⟩
   have HB3 := hid (HB1.out.roll hr3 (by omega) (by omega))
   have HR3 := hid (HR1.out.trans (hr3.mono (by omega)))
   have HD3 := hid hd3
   have hr12 : r < 12 := by omega
   have HOK := hid (itoa_ok12 ⟨r, hr12⟩)
   clear hd3 hr3
   go_wp2_with fail
   with_reducible refine (kit_itoa ((r : Int) - 3) (by omega) (by omega) _ HD3.out.pow).mono ?_
   rintro e w4 ⟨rfl, hb4⟩
   have HB4 := hid (HB3.out.below hb4 HB3.out.lt)
   have HR4 := hid (HR3.out.trans (Roll.of_below (hb4.mono HR3.out.size) g))
   have HD4 := hid (HD3.out.below hb4 HD3.out.lt)
   have hz4 := HB4.out.lt
   have HOK4 : Hid (TextOk 8 ⟨(Lib.itoa ((r : Int) - 3)).toArray⟩) := HOK.out
   generalize (⟨(Lib.itoa ((r : Int) - 3)).toArray⟩ : ByteArray) = s at *
   have c0 := HB4.out.cell 0 rfl
   have c1 := HB4.out.cell 1 rfl
   have f0 := HB4.out.frozen 0
   have f1 := HB4.out.frozen 1
   clear hb4 hq1 hq2 hq3 hq4
   go_wp2
   refine bodyPost_ret (by simp [results, Tryz.results93, go_sem, c0, c1]; rfl) rfl ?_
   exact ⟨⟨false, s⟩, rfl, cellOk_text HOK4.out, HD4.out.below (B := w.heap.size) (by have := Below.refl w.heap.size w4; repeat' (first | (with_reducible exact Below.refl _ _) | (with_reducible assumption) | (with_reducible refine below_drewN ?_) | (with_reducible refine Below.alloc ?_ ?_ _) | (with_reducible refine Below.drew ?_) | (with_reducible refine Below.setCell ?_ ?_ _) | (with_reducible refine Below.trans ?_ (Below.mono (by with_reducible assumption) ?_)) | go_size)) hgl, HR4.out.trans (Roll.of_below (by repeat' (first | (with_reducible exact Below.refl _ _) | (with_reducible assumption) | (with_reducible refine below_drewN ?_) | (with_reducible refine Below.alloc ?_ ?_ _) | (with_reducible refine Below.drew ?_) | (with_reducible refine Below.setCell ?_ ?_ _) | (with_reducible refine Below.trans ?_ (Below.mono (by with_reducible assumption) ?_)) | go_size)) g)⟩
end Go.Proofs.YthblaeleogdfpaaGreatDoor

namespace Go.Proofs
open Go.Shelf Go.RowKit
def Tryz.laysBe_ren : Go.Shelf.Ren := ⟨fun | 166 => 102 | 169 => 103 | 240 => 153 | 276 => 206 | n => n, fun | 0 => 0 | 3 => 3 | 4 => 4 | 5 => 5 | 9 => 9 | 20 => 20 | 37 => 61 | 70 => 148 | 72 => 150 | 75 => 152 | 80 => 155 | 127 => 195 | 164 => 227 | n => n, fun | n => n⟩
theorem Tryz.laysBe166 : Go.Proofs.Lays.n166 Tryz.prog Tryz.laysBe_ren := {
 mixed := by kernel_rfl
 f166 := Tryz.func102.trans (congrArg some (by kernel_rfl))
 f240 := Tryz.func153.trans (congrArg some (by kernel_rfl))
 f276 := Tryz.func206.trans (congrArg some (by kernel_rfl))
 t0 := Tryz.underlying0
 a0 := Tryz.isAgg0
 z0 := Tryz.sizeOf0
 v0 := Tryz.zeroValue0
 t3 := Tryz.underlying3
 a3 := Tryz.isAgg3
 z3 := Tryz.sizeOf3
 v3 := Tryz.zeroValue3
 t4 := Tryz.underlying4
 a4 := Tryz.isAgg4
 z4 := Tryz.sizeOf4
 v4 := Tryz.zeroValue4
 t9 := Tryz.underlying9
 a9 := Tryz.isAgg9
 z9 := Tryz.sizeOf9
 v9 := Tryz.zeroValue9
 t20 := Tryz.underlying20
 a20 := Tryz.isAgg20
 z20 := Tryz.sizeOf20
 v20 := Tryz.zeroValue20
 t37 := Tryz.underlying61
 a37 := Tryz.isAgg61
 z37 := Tryz.sizeOf61
 v37 := Tryz.zeroValue61
 t70 := Tryz.underlying148
 a70 := Tryz.isAgg148
 z70 := Tryz.sizeOf148
 v70 := Tryz.zeroValue148
 t72 := Tryz.underlying150
 a72 := Tryz.isAgg150
 z72 := Tryz.sizeOf150
 v72 := Tryz.zeroValue150
 t75 := Tryz.underlying152
 a75 := Tryz.isAgg152
 z75 := Tryz.sizeOf152
 v75 := Tryz.zeroValue152
 t164 := Tryz.underlying227
 a164 := Tryz.isAgg227
 z164 := Tryz.sizeOf227
 v164 := Tryz.zeroValue227 }
theorem Tryz.laysBe169 : Go.Proofs.Lays.n169 Tryz.prog Tryz.laysBe_ren := {
 mixed := by kernel_rfl
 f169 := Tryz.func103.trans (congrArg some (by kernel_rfl))
 t0 := Tryz.underlying0
 a0 := Tryz.isAgg0
 z0 := Tryz.sizeOf0
 v0 := Tryz.zeroValue0
 t3 := Tryz.underlying3
 a3 := Tryz.isAgg3
 z3 := Tryz.sizeOf3
 v3 := Tryz.zeroValue3
 t9 := Tryz.underlying9
 a9 := Tryz.isAgg9
 z9 := Tryz.sizeOf9
 v9 := Tryz.zeroValue9
 t37 := Tryz.underlying61
 a37 := Tryz.isAgg61
 z37 := Tryz.sizeOf61
 v37 := Tryz.zeroValue61
 t70 := Tryz.underlying148
 a70 := Tryz.isAgg148
 z70 := Tryz.sizeOf148
 v70 := Tryz.zeroValue148
 t72 := Tryz.underlying150
 a72 := Tryz.isAgg150
 z72 := Tryz.sizeOf150
 v72 := Tryz.zeroValue150
 t127 := Tryz.underlying195
 a127 := Tryz.isAgg195
 z127 := Tryz.sizeOf195
 v127 := Tryz.zeroValue195 }
theorem Tryz.Builder_Extra_Be : Builder.Extra Tryz.prog Tryz.laysBe_ren := {
 sizeBuilder := by kernel_rfl
 liesBuilder := by kernel_rfl
 t5 := Tryz.underlying5
 a5 := Tryz.isAgg5
 z5 := Tryz.sizeOf5
 v5 := Tryz.zeroValue5
 infoByte := by kernel_rfl
 cellsByte := by kernel_rfl
 sizeByte := by kernel_rfl
 neB5 := by decide }
theorem Tryz.Builder_WriteString_k (B b : Nat) (bs : List Value) (s : ByteArray) (w : World) (h : Lib.IsBuilderF 150 5 B b bs w) (hlen : bs.length + s.size ≤ 140737488355328) (hBw : B ≤ w.heap.size) :
  Calls Tryz.prog 102 #[.pointer (some ⟨b, 0, none⟩), .string s] w fun e w' => e = .returned (.tuple #[.int .i64 s.size, .nilIface]) ∧ (Lib.BuilderAtF 150 5 B b (.pointer (some ⟨b, 0, none⟩)) (bs ++ Lib.strCells s) w' ∧ Below B w w' ∧ Lib.OthersKept 5 (some b) w w') := Any.Builder_WriteString_k Tryz.laysBe166 Tryz.Builder_Extra_Be B b bs s w h hlen hBw
theorem Tryz.Builder_String_any_k (B b : Nat) (l : List UInt8) (w : World) (h : Lib.IsBuilderF 150 5 B b (Lib.byteCells l) w) (hBw : B ≤ w.heap.size) :
  Calls Tryz.prog 103 #[.pointer (some ⟨b, 0, none⟩)] w fun e w' => e = .returned (.string ⟨l.toArray⟩) ∧ (Lib.IsBuilderF 150 5 B b (Lib.byteCells l) w' ∧ Below B w w' ∧ Lib.OthersKept 5 (some b) w w') := Any.Builder_String_any_k Tryz.laysBe169 Tryz.Builder_Extra_Be B b l w h hBw
end Go.Proofs
