/- DERIVED: THE SHELF's CONTRACTS AT THIS DUMP, IN PLAIN WORDS (tools/lay-plain.mjs out of 'YtfcccldofaleoaaGreatDoorShJL.lean', which tools/lay-shelf.mjs wrote): THE SAME DECLARATIONS UNDER THE SAME NAMES: 'import', 'namespace', 'open', 'def', 'theorem' AND NOTHING ELSE: no command of the shelf's: FOR A HAND-IN. Each laying: the table of numbers ('.._ren') and one theorem, a field a fact of the dump's own or the kernel's comparison; each contract: ONE APPLICATION. Contracts of the kit's dice: Cell, Number. -/
import Derived.Shelf.Strconv.Itoa3
import Derived.Test.YtfcccldofaleoaaGreatDoorProg
import Derived.Test.YtfcccldofaleoaaGreatDoorCopLesao
import Derived.Test.YtfcccldofaleoaaGreatDoorCopLesac
namespace Go.Proofs
open Go.Shelf
def Tryz.layItoaM_ren : Go.Shelf.Ren := ⟨fun | 171 => 68 | 243 => 100 | 246 => 128 | 283 => 155 | 284 => 156 | 285 => 157 | 286 => 158 | 129 => 114 | 317 => 173 | 318 => 174 | 319 => 175 | 320 => 176 | 337 => 187 | 338 => 188 | n => n, fun | 3 => 3 | 9 => 9 | 2 => 2 | 4 => 4 | 171 => 185 | 0 => 0 | 53 => 156 | 37 => 63 | 5 => 5 | 173 => 187 | 212 => 206 | 51 => 133 | 20 => 20 | 213 => 207 | 46 => 119 | 232 => 218 | 233 => 219 | n => n, fun | 17 => 3 | 18 => 4 | 19 => 5 | n => n⟩
theorem Tryz.layItoaM : Go.Proofs.LaysM.n171 Tryz.prog Tryz.layItoaM_ren := {
  mixed := by kernel_rfl
  f129 := Tryz.func114.trans (congrArg some (by kernel_rfl))
  f171 := Tryz.func68.trans (congrArg some (by kernel_rfl))
  f243 := Tryz.func100.trans (congrArg some (by kernel_rfl))
  f246 := Tryz.func128.trans (congrArg some (by kernel_rfl))
  f283 := Tryz.func155.trans (congrArg some (by kernel_rfl))
  f284 := Tryz.func156.trans (congrArg some (by kernel_rfl))
  f285 := Tryz.func157.trans (congrArg some (by kernel_rfl))
  f286 := Tryz.func158.trans (congrArg some (by kernel_rfl))
  f317 := Tryz.func173.trans (congrArg some (by kernel_rfl))
  f318 := Tryz.func174.trans (congrArg some (by kernel_rfl))
  f319 := Tryz.func175.trans (congrArg some (by kernel_rfl))
  f320 := Tryz.func176.trans (congrArg some (by kernel_rfl))
  f337 := Tryz.func187.trans (congrArg some (by kernel_rfl))
  f338 := Tryz.func188.trans (congrArg some (by kernel_rfl))
  t0 := Tryz.underlying0
  a0 := Tryz.isAgg0
  z0 := Tryz.sizeOf0
  v0 := Tryz.zeroValue0
  t2 := Tryz.underlying2
  a2 := Tryz.isAgg2
  z2 := Tryz.sizeOf2
  v2 := Tryz.zeroValue2
  t3 := Tryz.underlying3
  a3 := Tryz.isAgg3
  z3 := Tryz.sizeOf3
  v3 := Tryz.zeroValue3
  t4 := Tryz.underlying4
  a4 := Tryz.isAgg4
  z4 := Tryz.sizeOf4
  v4 := Tryz.zeroValue4
  t5 := Tryz.underlying5
  a5 := Tryz.isAgg5
  z5 := Tryz.sizeOf5
  v5 := Tryz.zeroValue5
  t9 := Tryz.underlying9
  a9 := Tryz.isAgg9
  z9 := Tryz.sizeOf9
  v9 := Tryz.zeroValue9
  t20 := Tryz.underlying20
  a20 := Tryz.isAgg20
  z20 := Tryz.sizeOf20
  v20 := Tryz.zeroValue20
  t37 := Tryz.underlying63
  a37 := Tryz.isAgg63
  z37 := Tryz.sizeOf63
  v37 := Tryz.zeroValue63
  t46 := Tryz.underlying119
  a46 := Tryz.isAgg119
  z46 := Tryz.sizeOf119
  v46 := Tryz.zeroValue119
  t51 := Tryz.underlying133
  a51 := Tryz.isAgg133
  z51 := Tryz.sizeOf133
  v51 := Tryz.zeroValue133
  t53 := Tryz.underlying156
  a53 := Tryz.isAgg156
  z53 := Tryz.sizeOf156
  v53 := Tryz.zeroValue156
  t171 := Tryz.underlying185
  a171 := Tryz.isAgg185
  z171 := Tryz.sizeOf185
  v171 := Tryz.zeroValue185
  t173 := Tryz.underlying187
  a173 := Tryz.isAgg187
  z173 := Tryz.sizeOf187
  v173 := Tryz.zeroValue187
  t212 := Tryz.underlying206
  a212 := Tryz.isAgg206
  z212 := Tryz.sizeOf206
  v212 := Tryz.zeroValue206
  t213 := Tryz.underlying207
  a213 := Tryz.isAgg207
  z213 := Tryz.sizeOf207
  t232 := Tryz.underlying218
  a232 := Tryz.isAgg218
  z232 := Tryz.sizeOf218
  v232 := Tryz.zeroValue218
  t233 := Tryz.underlying219
  a233 := Tryz.isAgg219
  z233 := Tryz.sizeOf219
  v233 := Tryz.zeroValue219
  g17 := by kernel_rfl
  g18 := by kernel_rfl
  g19 := by kernel_rfl
  i0 := by kernel_rfl
  i2 := by kernel_rfl
  i3 := by kernel_rfl
  i4 := by kernel_rfl
  i5 := by kernel_rfl
  i9 := by kernel_rfl
  i20 := by kernel_rfl
  i37 := by kernel_rfl
  i46 := by kernel_rfl
  i51 := by kernel_rfl
  i53 := by kernel_rfl
  i171 := by kernel_rfl
  i173 := by kernel_rfl
  i212 := by kernel_rfl
  i232 := by kernel_rfl
  i233 := by kernel_rfl
  m17 := by kernel_rfl
  m18 := by kernel_rfl
  m19 := by kernel_rfl }
end Go.Proofs

namespace Go.Proofs.YtfcccldofaleoaaGreatDoor
open Go.RowKit

theorem below_grow {w : World} (k : Nat) (os : Array Obj) : Below w.heap.size w (Sort.grow (w.drewN k) os) :=
  ⟨rfl, rfl, rfl, by simp [Sort.grow], fun i hi => Sort.heap_grow_old (w.drewN k) os hi⟩
theorem kit_itoa (n : Int) (h0 : -100 ≤ n) (h1 : n ≤ 100) (w : World) (hp : Pow w) :
    Calls Tryz.prog 68 #[.int .i64 n] w (fun e w' => e = .returned (.string ⟨(Lib.itoa n).toArray⟩) ∧ Below w.heap.size w w') :=
  (Any.strconv_Itoa Tryz.layItoaM n (by omega) (by omega) w hp).mono fun e w' ⟨h, k, os, e2⟩ => ⟨h, by rw [e2]; exact below_grow k os⟩
theorem itoa_ok12 : ∀ i : Fin 12, TextOk 8 ⟨(Lib.itoa ((i : Int) - 3)).toArray⟩ := by unfold TextOk; decide +kernel
theorem itoa_okK : ∀ i : Fin 12, TextOk 7 ⟨(Lib.itoa (i : Int)).toArray⟩ := by unfold TextOk; decide +kernel

def KCell (w : World) (g : Nat) (e : Ending) (w' : World) : Prop :=
  ∃ c : Cl, e = .returned (.agg #[.bool c.null, .string c.text]) ∧ CellOk c ∧ KDice w' g ∧ Roll w.heap.size g w w'

def cellTexts : List ByteArray := [⟨#[97]⟩, ⟨#[98]⟩, ⟨#[99]⟩, ⟨#[49]⟩, ⟨#[50]⟩, ⟨#[51]⟩, ⟨#[49, 48]⟩, ⟨#[120]⟩, ⟨#[45, 49, 46, 53]⟩, ⟨#[50]⟩]
theorem cellTexts_ok : ∀ x ∈ cellTexts, TextOk 8 x := by unfold TextOk; decide +kernel
def numTexts : List ByteArray := [⟨#[120]⟩, ⟨#[]⟩, ⟨#[49, 46, 50, 46, 51]⟩, ⟨#[49, 46, 53, 48]⟩]
theorem numTexts_ok : ∀ x ∈ numTexts, TextOk 8 x := by unfold TextOk; decide +kernel

set_option maxHeartbeats 1000000 in
theorem kit_Cell (g : Nat) (w : World) (hd : KDice w g) :
    Calls Tryz.prog 66 #[.pointer (some ⟨g, 0, none⟩)] w (KCell w g) := by
  have hgl := hd.lt
  have HD := hid hd
  clear hd
  go_enter Tryz.func66, Tryz.ntmps66
  go_wp2_with fail
  have hd0 : KDice (w.alloc (.cells #[.bool false, .string ⟨#[]⟩] 58)) g := HD.out.alloc _
  have hr0 : Roll w.heap.size g w (w.alloc (.cells #[.bool false, .string ⟨#[]⟩] 58)) := (Roll.refl _ _ _).alloc (Nat.le_refl _) _
  have hb0 := BoxN.new w #[.bool false, .string ⟨#[]⟩] 58
  with_reducible refine (kit_Next g _ _ hd0 (by omega) (by omega)).mono ?_
  rintro e w1 ⟨m, rfl, hm, hd1, hr1, hs1⟩
  have HB1 := hid (hb0.roll hr1 (by simp) (by omega))
  have HR1 := hid (hr0.trans (hr1.mono (by simp)))
  have HD1 := hid hd1
  have hz1 := HB1.out.lt
  clear hd0 hr0 hb0 hd1 hr1 hs1 hm
  by_cases h0 : m = 1
  · subst h0
    have c0 := HB1.out.cell 0 rfl
    have c1 := HB1.out.cell 1 rfl
    have f0 := HB1.out.frozen 0
    have f1 := HB1.out.frozen 1
    go_wp2
    refine bodyPost_ret (by simp [results, Tryz.results66, go_sem, c0, c1]; rfl) rfl ?_
    exact ⟨⟨true, ⟨#[]⟩⟩, rfl, cellOk_null, HD1.out.below (B := w.heap.size) (by have := Below.refl w.heap.size w1; repeat' (first | (with_reducible exact Below.refl _ _) | (with_reducible assumption) | (with_reducible refine below_drewN ?_) | (with_reducible refine Below.alloc ?_ ?_ _) | (with_reducible refine Below.drew ?_) | (with_reducible refine Below.setCell ?_ ?_ _) | (with_reducible refine Below.trans ?_ (Below.mono (by with_reducible assumption) ?_)) | go_size)) hgl, HR1.out.trans (Roll.of_below (by repeat' (first | (with_reducible exact Below.refl _ _) | (with_reducible assumption) | (with_reducible refine below_drewN ?_) | (with_reducible refine Below.alloc ?_ ?_ _) | (with_reducible refine Below.drew ?_) | (with_reducible refine Below.setCell ?_ ?_ _) | (with_reducible refine Below.trans ?_ (Below.mono (by with_reducible assumption) ?_)) | go_size)) g)⟩
  · have hq1 : ((m : Int) == 1) = false := by simp; omega
    have hq2 : ¬ (m : Int) = 1 := by omega
    go_wp2_with fail
    have hd2 := HD1.out.alloc (.cells #[.string ⟨#[97]⟩, .string ⟨#[98]⟩, .string ⟨#[99]⟩, .string ⟨#[49]⟩, .string ⟨#[50]⟩, .string ⟨#[51]⟩, .string ⟨#[49, 48]⟩, .string ⟨#[120]⟩, .string ⟨#[45, 49, 46, 53]⟩, .string ⟨#[50]⟩] 9)
    have hb2 := HB1.out.alloc (.cells #[.string ⟨#[97]⟩, .string ⟨#[98]⟩, .string ⟨#[99]⟩, .string ⟨#[49]⟩, .string ⟨#[50]⟩, .string ⟨#[51]⟩, .string ⟨#[49, 48]⟩, .string ⟨#[120]⟩, .string ⟨#[45, 49, 46, 53]⟩, .string ⟨#[50]⟩] 9)
    have hw2 : BoxN (w1.alloc (.cells #[.string ⟨#[97]⟩, .string ⟨#[98]⟩, .string ⟨#[99]⟩, .string ⟨#[49]⟩, .string ⟨#[50]⟩, .string ⟨#[51]⟩, .string ⟨#[49, 48]⟩, .string ⟨#[120]⟩, .string ⟨#[45, 49, 46, 53]⟩, .string ⟨#[50]⟩] 9)) w1.heap.size 9 (cellTexts.map Value.string).toArray := BoxN.new w1 #[.string ⟨#[97]⟩, .string ⟨#[98]⟩, .string ⟨#[99]⟩, .string ⟨#[49]⟩, .string ⟨#[50]⟩, .string ⟨#[51]⟩, .string ⟨#[49, 48]⟩, .string ⟨#[120]⟩, .string ⟨#[45, 49, 46, 53]⟩, .string ⟨#[50]⟩] 9
    have hr2 := HR1.out.alloc (by omega) (.cells #[.string ⟨#[97]⟩, .string ⟨#[98]⟩, .string ⟨#[99]⟩, .string ⟨#[49]⟩, .string ⟨#[50]⟩, .string ⟨#[51]⟩, .string ⟨#[49, 48]⟩, .string ⟨#[120]⟩, .string ⟨#[45, 49, 46, 53]⟩, .string ⟨#[50]⟩] 9)
    have hz2 : (w1.alloc (.cells #[.string ⟨#[97]⟩, .string ⟨#[98]⟩, .string ⟨#[99]⟩, .string ⟨#[49]⟩, .string ⟨#[50]⟩, .string ⟨#[51]⟩, .string ⟨#[49, 48]⟩, .string ⟨#[120]⟩, .string ⟨#[45, 49, 46, 53]⟩, .string ⟨#[50]⟩] 9)).heap.size = w1.heap.size + 1 := by simp
    with_reducible refine (kit_Word g w1.heap.size 10 cellTexts _ hd2 hw2 (by omega) rfl (by omega) (by omega)).mono ?_
    generalize (w1.alloc (.cells #[.string ⟨#[97]⟩, .string ⟨#[98]⟩, .string ⟨#[99]⟩, .string ⟨#[49]⟩, .string ⟨#[50]⟩, .string ⟨#[51]⟩, .string ⟨#[49, 48]⟩, .string ⟨#[120]⟩, .string ⟨#[45, 49, 46, 53]⟩, .string ⟨#[50]⟩] 9)) = W2 at *
    rintro e w3 ⟨s, rfl, hs, hd3, hr3, hs3⟩
    have HB3 := hid (hb2.roll hr3 (by omega) (by omega))
    have HR3 := hid (hr2.trans (hr3.mono (by omega)))
    have HD3 := hid hd3
    have HOK := hid (cellTexts_ok _ hs)
    have c0 := HB3.out.cell 0 rfl
    have c1 := HB3.out.cell 1 rfl
    have f0 := HB3.out.frozen 0
    have f1 := HB3.out.frozen 1
    clear hd2 hb2 hw2 hr2 hs hd3 hr3 hq1 hq2
    go_wp2
    refine bodyPost_ret (by simp [results, Tryz.results66, go_sem, c0, c1]; rfl) rfl ?_
    exact ⟨⟨false, s⟩, rfl, cellOk_text HOK.out, HD3.out.below (B := w.heap.size) (by have := Below.refl w.heap.size w3; repeat' (first | (with_reducible exact Below.refl _ _) | (with_reducible assumption) | (with_reducible refine below_drewN ?_) | (with_reducible refine Below.alloc ?_ ?_ _) | (with_reducible refine Below.drew ?_) | (with_reducible refine Below.setCell ?_ ?_ _) | (with_reducible refine Below.trans ?_ (Below.mono (by with_reducible assumption) ?_)) | go_size)) hgl, HR3.out.trans (Roll.of_below (by repeat' (first | (with_reducible exact Below.refl _ _) | (with_reducible assumption) | (with_reducible refine below_drewN ?_) | (with_reducible refine Below.alloc ?_ ?_ _) | (with_reducible refine Below.drew ?_) | (with_reducible refine Below.setCell ?_ ?_ _) | (with_reducible refine Below.trans ?_ (Below.mono (by with_reducible assumption) ?_)) | go_size)) g)⟩

set_option maxHeartbeats 1000000 in
theorem kit_Number (g : Nat) (w : World) (hd : KDice w g) :
    Calls Tryz.prog 67 #[.pointer (some ⟨g, 0, none⟩)] w (KCell w g) := by
  have hgl := hd.lt
  have HD := hid hd
  clear hd
  go_enter Tryz.func67, Tryz.ntmps67
  go_wp2_with fail
  have hd0 : KDice (w.alloc (.cells #[.bool false, .string ⟨#[]⟩] 58)) g := HD.out.alloc _
  have hr0 : Roll w.heap.size g w (w.alloc (.cells #[.bool false, .string ⟨#[]⟩] 58)) := (Roll.refl _ _ _).alloc (Nat.le_refl _) _
  have hb0 := BoxN.new w #[.bool false, .string ⟨#[]⟩] 58
  with_reducible refine (kit_Next g _ _ hd0 (by omega) (by omega)).mono ?_
  rintro e w1 ⟨m, rfl, hm, hd1, hr1, hs1⟩
  have HB1 := hid (hb0.roll hr1 (by simp) (by omega))
  have HR1 := hid (hr0.trans (hr1.mono (by simp)))
  have HD1 := hid hd1
  have hz1 := HB1.out.lt
  clear hd0 hr0 hb0 hd1 hr1 hs1 hm
  by_cases h0 : m = 1
  · subst h0
    have c0 := HB1.out.cell 0 rfl
    have c1 := HB1.out.cell 1 rfl
    have f0 := HB1.out.frozen 0
    have f1 := HB1.out.frozen 1
    go_wp2
    refine bodyPost_ret (by simp [results, Tryz.results67, go_sem, c0, c1]; rfl) rfl ?_
    exact ⟨⟨true, ⟨#[]⟩⟩, rfl, cellOk_null, HD1.out.below (B := w.heap.size) (by have := Below.refl w.heap.size w1; repeat' (first | (with_reducible exact Below.refl _ _) | (with_reducible assumption) | (with_reducible refine below_drewN ?_) | (with_reducible refine Below.alloc ?_ ?_ _) | (with_reducible refine Below.drew ?_) | (with_reducible refine Below.setCell ?_ ?_ _) | (with_reducible refine Below.trans ?_ (Below.mono (by with_reducible assumption) ?_)) | go_size)) hgl, HR1.out.trans (Roll.of_below (by repeat' (first | (with_reducible exact Below.refl _ _) | (with_reducible assumption) | (with_reducible refine below_drewN ?_) | (with_reducible refine Below.alloc ?_ ?_ _) | (with_reducible refine Below.drew ?_) | (with_reducible refine Below.setCell ?_ ?_ _) | (with_reducible refine Below.trans ?_ (Below.mono (by with_reducible assumption) ?_)) | go_size)) g)⟩
  · have hq1 : ((m : Int) == 1) = false := by simp; omega
    have hq2 : ¬ (m : Int) = 1 := by omega
    by_cases h2 : m = 2
    · subst h2
      go_wp2_with fail
      have hd2 := HD1.out.alloc (.cells #[.string ⟨#[120]⟩, .string ⟨#[]⟩, .string ⟨#[49, 46, 50, 46, 51]⟩, .string ⟨#[49, 46, 53, 48]⟩] 9)
      have hb2 := HB1.out.alloc (.cells #[.string ⟨#[120]⟩, .string ⟨#[]⟩, .string ⟨#[49, 46, 50, 46, 51]⟩, .string ⟨#[49, 46, 53, 48]⟩] 9)
      have hw2 : BoxN (w1.alloc (.cells #[.string ⟨#[120]⟩, .string ⟨#[]⟩, .string ⟨#[49, 46, 50, 46, 51]⟩, .string ⟨#[49, 46, 53, 48]⟩] 9)) w1.heap.size 9 (numTexts.map Value.string).toArray := BoxN.new w1 #[.string ⟨#[120]⟩, .string ⟨#[]⟩, .string ⟨#[49, 46, 50, 46, 51]⟩, .string ⟨#[49, 46, 53, 48]⟩] 9
      have hr2 := HR1.out.alloc (by omega) (.cells #[.string ⟨#[120]⟩, .string ⟨#[]⟩, .string ⟨#[49, 46, 50, 46, 51]⟩, .string ⟨#[49, 46, 53, 48]⟩] 9)
      have hz2 : (w1.alloc (.cells #[.string ⟨#[120]⟩, .string ⟨#[]⟩, .string ⟨#[49, 46, 50, 46, 51]⟩, .string ⟨#[49, 46, 53, 48]⟩] 9)).heap.size = w1.heap.size + 1 := by simp
      with_reducible refine (kit_Word g w1.heap.size 4 numTexts _ hd2 hw2 (by omega) rfl (by omega) (by omega)).mono ?_
      generalize (w1.alloc (.cells #[.string ⟨#[120]⟩, .string ⟨#[]⟩, .string ⟨#[49, 46, 50, 46, 51]⟩, .string ⟨#[49, 46, 53, 48]⟩] 9)) = W2 at *
      rintro e w3 ⟨s, rfl, hs, hd3, hr3, hs3⟩
      have HB3 := hid (hb2.roll hr3 (by omega) (by omega))
      have HR3 := hid (hr2.trans (hr3.mono (by omega)))
      have HD3 := hid hd3
      have HOK := hid (numTexts_ok _ hs)
      have c0 := HB3.out.cell 0 rfl
      have c1 := HB3.out.cell 1 rfl
      have f0 := HB3.out.frozen 0
      have f1 := HB3.out.frozen 1
      clear hd2 hb2 hw2 hr2 hs hd3 hr3 hq1 hq2
      go_wp2
      refine bodyPost_ret (by simp [results, Tryz.results67, go_sem, c0, c1]; rfl) rfl ?_
      exact ⟨⟨false, s⟩, rfl, cellOk_text HOK.out, HD3.out.below (B := w.heap.size) (by have := Below.refl w.heap.size w3; repeat' (first | (with_reducible exact Below.refl _ _) | (with_reducible assumption) | (with_reducible refine below_drewN ?_) | (with_reducible refine Below.alloc ?_ ?_ _) | (with_reducible refine Below.drew ?_) | (with_reducible refine Below.setCell ?_ ?_ _) | (with_reducible refine Below.trans ?_ (Below.mono (by with_reducible assumption) ?_)) | go_size)) hgl, HR3.out.trans (Roll.of_below (by repeat' (first | (with_reducible exact Below.refl _ _) | (with_reducible assumption) | (with_reducible refine below_drewN ?_) | (with_reducible refine Below.alloc ?_ ?_ _) | (with_reducible refine Below.drew ?_) | (with_reducible refine Below.setCell ?_ ?_ _) | (with_reducible refine Below.trans ?_ (Below.mono (by with_reducible assumption) ?_)) | go_size)) g)⟩
    · have hq3 : ((m : Int) == 2) = false := by simp; omega
      have hq4 : ¬ (m : Int) = 2 := by omega
      go_wp2_with fail
      with_reducible refine (kit_Next g _ _ HD1.out (by omega) (by omega)).mono ?_
      rintro e w3 ⟨r, rfl, hr, hd3, hr3, hs3⟩
      have HB3 := hid (HB1.out.roll hr3 (by omega) (by omega))
      have HR3 := hid (HR1.out.trans (hr3.mono (by omega)))
      have HD3 := hid hd3
      have hr12 : r < 12 := by omega
      have HOK := hid (itoa_ok12 ⟨r, hr12⟩)
      clear hd3 hr3
      go_wp2_with fail
      with_reducible refine (kit_itoa ((r : Int) - 3) (by omega) (by omega) _ HD3.out.pow).mono ?_
      rintro e w4 ⟨rfl, hb4⟩
      have HB4 := hid (HB3.out.below hb4 HB3.out.lt)
      have HR4 := hid (HR3.out.trans (Roll.of_below (hb4.mono HR3.out.size) g))
      have HD4 := hid (HD3.out.below hb4 HD3.out.lt)
      have hz4 := HB4.out.lt
      have HOK4 : Hid (TextOk 8 ⟨(Lib.itoa ((r : Int) - 3)).toArray⟩) := HOK.out
      generalize (⟨(Lib.itoa ((r : Int) - 3)).toArray⟩ : ByteArray) = s at *
      have c0 := HB4.out.cell 0 rfl
      have c1 := HB4.out.cell 1 rfl
      have f0 := HB4.out.frozen 0
      have f1 := HB4.out.frozen 1
      clear hb4 hq1 hq2 hq3 hq4
      go_wp2
      refine bodyPost_ret (by simp [results, Tryz.results67, go_sem, c0, c1]; rfl) rfl ?_
      exact ⟨⟨false, s⟩, rfl, cellOk_text HOK4.out, HD4.out.below (B := w.heap.size) (by have := Below.refl w.heap.size w4; repeat' (first | (with_reducible exact Below.refl _ _) | (with_reducible assumption) | (with_reducible refine below_drewN ?_) | (with_reducible refine Below.alloc ?_ ?_ _) | (with_reducible refine Below.drew ?_) | (with_reducible refine Below.setCell ?_ ?_ _) | (with_reducible refine Below.trans ?_ (Below.mono (by with_reducible assumption) ?_)) | go_size)) hgl, HR4.out.trans (Roll.of_below (by repeat' (first | (with_reducible exact Below.refl _ _) | (with_reducible assumption) | (with_reducible refine below_drewN ?_) | (with_reducible refine Below.alloc ?_ ?_ _) | (with_reducible refine Below.drew ?_) | (with_reducible refine Below.setCell ?_ ?_ _) | (with_reducible refine Below.trans ?_ (Below.mono (by with_reducible assumption) ?_)) | go_size)) g)⟩

end Go.Proofs.YtfcccldofaleoaaGreatDoor
