/- Contracts of the dice's Number, Date and Field. -/
import Derived.Shelf.Strconv.Itoa3
import Derived.Test.YtdncdlcfgljheaaDoorShelfB
import Derived.Deep.RegionWith
import Derived.Deep.Cut
import Derived.Deep.CutRange
import Derived.Deep.DeepCutAuto
import Derived.Test.YtdncdlcfgljheaaDoorGx
namespace Go.Proofs.YtdncdlcfgljheaaDoor
open Go.RowKit Go.Shelf

/-- no end of a line -/
def noNl (t : ByteArray) : Prop := ∀ c ∈ t.data.toList, c ≠ 10 ∧ c ≠ 13
theorem noNl.app {s t : ByteArray} (h : noNl s) (k : noNl t) : noNl (s ++ t) := by
  intro c hc
  rw [ByteArray.data_append, Array.toList_append, List.mem_append] at hc
  rcases hc with hc | hc
  · exact h c hc
  · exact k c hc
/-- small, and without the end of a line -/
def Small (n : Nat) (t : ByteArray) : Prop := t.size ≤ n ∧ noNl t
theorem Small.app {m n : Nat} {s t : ByteArray} (h : Small m s) (k : Small n t) : Small (m + n) (s ++ t) := ⟨by rw [ByteArray.size_append]; have := h.1; have := k.1; omega, h.2.app k.2⟩
theorem Small.more {m n : Nat} {t : ByteArray} (h : Small m t) (hn : m ≤ n) : Small n t := ⟨Nat.le_trans h.1 hn, h.2⟩
instance (n : Nat) (t : ByteArray) : Decidable (Small n t) := by unfold Small noNl; exact inferInstance
theorem small_at {L : List ByteArray} {n : Nat} (h : ∀ x ∈ L, Small n x) {i : Nat} (hi : i < L.length) : Small n (L.getD i ⟨#[]⟩) := by
  have : L.getD i ⟨#[]⟩ ∈ L := by simp [List.getD, hi]
  exact h _ this
theorem strs_cell (L : List ByteArray) (W : World) (i : Nat) (hi : i < L.length) : (W.alloc (.cells (L.map Value.string).toArray 9)).cell? ⟨W.heap.size, i, none⟩ = some (.string (L.getD i ⟨#[]⟩)) := by
  rw [World.cell?_alloc_new]
  simp [List.getD, hi]
def LY : List ByteArray := [⟨#[50, 48, 50, 52]⟩, ⟨#[49, 57, 57, 57]⟩, ⟨#[50, 48, 50, 54]⟩, ⟨#[49, 57, 48, 48]⟩, ⟨#[48, 48, 48, 49]⟩, ⟨#[57, 57, 57, 57]⟩]
def LM : List ByteArray := [⟨#[48, 49]⟩, ⟨#[48, 50]⟩, ⟨#[49, 50]⟩, ⟨#[49, 49]⟩, ⟨#[49, 51]⟩]
def LT : List ByteArray := [⟨#[48, 49]⟩, ⟨#[50, 56]⟩, ⟨#[50, 57]⟩, ⟨#[51, 48]⟩, ⟨#[51, 49]⟩]
def LS : List ByteArray := [⟨#[]⟩, ⟨#[]⟩, ⟨#[]⟩, ⟨#[45]⟩, ⟨#[43]⟩]
def LF : List ByteArray := [⟨#[53]⟩, ⟨#[53, 48]⟩, ⟨#[48]⟩, ⟨#[49, 50, 53]⟩, ⟨#[48, 48, 55]⟩, ⟨#[48, 48, 48, 48, 48, 48, 48, 48, 49]⟩]
def L3 : List ByteArray := [⟨#[121, 101, 115]⟩, ⟨#[110, 111]⟩, ⟨#[84, 82, 85, 69]⟩, ⟨#[70, 97, 108, 115, 101]⟩, ⟨#[32, 121, 101, 115, 32]⟩]
def L4 : List ByteArray := [⟨#[32, 107, 103]⟩, ⟨#[103]⟩, ⟨#[32, 107, 109]⟩, ⟨#[109]⟩, ⟨#[32, 109, 105, 110]⟩, ⟨#[37]⟩, ⟨#[32, 109, 109]⟩]
def L5 : List ByteArray := [⟨#[]⟩, ⟨#[32]⟩, ⟨#[78, 65]⟩, ⟨#[45]⟩, ⟨#[110, 111, 110, 101]⟩, ⟨#[63]⟩, ⟨#[110, 117, 108, 108]⟩]
def L6 : List ByteArray := [⟨#[97, 44, 98]⟩, ⟨#[34, 113, 34]⟩, ⟨#[39]⟩, ⟨#[120, 59, 121]⟩, ⟨#[108, 10, 105]⟩, ⟨#[99, 13, 114]⟩, ⟨#[32, 112, 97, 100, 32]⟩, ⟨#[9]⟩, ⟨#[124]⟩, ⟨#[]⟩, ⟨#[195, 169]⟩, ⟨#[123]⟩, ⟨#[97, 34, 98]⟩, ⟨#[13, 10]⟩]
theorem LY_small : ∀ x ∈ LY, Small 4 x := by decide
theorem LY_cell (W : World) (i : Nat) (hi : i < 6) : (W.alloc (.cells #[.string ⟨#[50, 48, 50, 52]⟩, .string ⟨#[49, 57, 57, 57]⟩, .string ⟨#[50, 48, 50, 54]⟩, .string ⟨#[49, 57, 48, 48]⟩, .string ⟨#[48, 48, 48, 49]⟩, .string ⟨#[57, 57, 57, 57]⟩] 9)).cell? ⟨W.heap.size, i, none⟩ = some (.string (LY.getD i ⟨#[]⟩)) := strs_cell LY W i hi
theorem LM_small : ∀ x ∈ LM, Small 2 x := by decide
theorem LM_cell (W : World) (i : Nat) (hi : i < 5) : (W.alloc (.cells #[.string ⟨#[48, 49]⟩, .string ⟨#[48, 50]⟩, .string ⟨#[49, 50]⟩, .string ⟨#[49, 49]⟩, .string ⟨#[49, 51]⟩] 9)).cell? ⟨W.heap.size, i, none⟩ = some (.string (LM.getD i ⟨#[]⟩)) := strs_cell LM W i hi
theorem LT_small : ∀ x ∈ LT, Small 2 x := by decide
theorem LT_cell (W : World) (i : Nat) (hi : i < 5) : (W.alloc (.cells #[.string ⟨#[48, 49]⟩, .string ⟨#[50, 56]⟩, .string ⟨#[50, 57]⟩, .string ⟨#[51, 48]⟩, .string ⟨#[51, 49]⟩] 9)).cell? ⟨W.heap.size, i, none⟩ = some (.string (LT.getD i ⟨#[]⟩)) := strs_cell LT W i hi
theorem LS_small : ∀ x ∈ LS, Small 1 x := by decide
theorem LS_cell (W : World) (i : Nat) (hi : i < 5) : (W.alloc (.cells #[.string ⟨#[]⟩, .string ⟨#[]⟩, .string ⟨#[]⟩, .string ⟨#[45]⟩, .string ⟨#[43]⟩] 9)).cell? ⟨W.heap.size, i, none⟩ = some (.string (LS.getD i ⟨#[]⟩)) := strs_cell LS W i hi
theorem LF_small : ∀ x ∈ LF, Small 9 x := by decide
theorem LF_cell (W : World) (i : Nat) (hi : i < 6) : (W.alloc (.cells #[.string ⟨#[53]⟩, .string ⟨#[53, 48]⟩, .string ⟨#[48]⟩, .string ⟨#[49, 50, 53]⟩, .string ⟨#[48, 48, 55]⟩, .string ⟨#[48, 48, 48, 48, 48, 48, 48, 48, 49]⟩] 9)).cell? ⟨W.heap.size, i, none⟩ = some (.string (LF.getD i ⟨#[]⟩)) := strs_cell LF W i hi
theorem L3_small : ∀ x ∈ L3, Small 5 x := by decide
theorem L3_cell (W : World) (i : Nat) (hi : i < 5) : (W.alloc (.cells #[.string ⟨#[121, 101, 115]⟩, .string ⟨#[110, 111]⟩, .string ⟨#[84, 82, 85, 69]⟩, .string ⟨#[70, 97, 108, 115, 101]⟩, .string ⟨#[32, 121, 101, 115, 32]⟩] 9)).cell? ⟨W.heap.size, i, none⟩ = some (.string (L3.getD i ⟨#[]⟩)) := strs_cell L3 W i hi
theorem L4_small : ∀ x ∈ L4, Small 4 x := by decide
theorem L4_cell (W : World) (i : Nat) (hi : i < 7) : (W.alloc (.cells #[.string ⟨#[32, 107, 103]⟩, .string ⟨#[103]⟩, .string ⟨#[32, 107, 109]⟩, .string ⟨#[109]⟩, .string ⟨#[32, 109, 105, 110]⟩, .string ⟨#[37]⟩, .string ⟨#[32, 109, 109]⟩] 9)).cell? ⟨W.heap.size, i, none⟩ = some (.string (L4.getD i ⟨#[]⟩)) := strs_cell L4 W i hi
theorem L5_small : ∀ x ∈ L5, Small 4 x := by decide
theorem L5_cell (W : World) (i : Nat) (hi : i < 7) : (W.alloc (.cells #[.string ⟨#[]⟩, .string ⟨#[32]⟩, .string ⟨#[78, 65]⟩, .string ⟨#[45]⟩, .string ⟨#[110, 111, 110, 101]⟩, .string ⟨#[63]⟩, .string ⟨#[110, 117, 108, 108]⟩] 9)).cell? ⟨W.heap.size, i, none⟩ = some (.string (L5.getD i ⟨#[]⟩)) := strs_cell L5 W i hi
theorem L6_size : ∀ x ∈ L6, x.size ≤ 5 := by decide
theorem L6_cell (W : World) (i : Nat) (hi : i < 14) : (W.alloc (.cells #[.string ⟨#[97, 44, 98]⟩, .string ⟨#[34, 113, 34]⟩, .string ⟨#[39]⟩, .string ⟨#[120, 59, 121]⟩, .string ⟨#[108, 10, 105]⟩, .string ⟨#[99, 13, 114]⟩, .string ⟨#[32, 112, 97, 100, 32]⟩, .string ⟨#[9]⟩, .string ⟨#[124]⟩, .string ⟨#[]⟩, .string ⟨#[195, 169]⟩, .string ⟨#[123]⟩, .string ⟨#[97, 34, 98]⟩, .string ⟨#[13, 10]⟩] 9)).cell? ⟨W.heap.size, i, none⟩ = some (.string (L6.getD i ⟨#[]⟩)) := strs_cell L6 W i hi

theorem dec_small : ∀ i, i < 40 → Small 2 ⟨(Lib.decDigits i).toArray⟩ ∧ 1 ≤ (⟨(Lib.decDigits i).toArray⟩ : ByteArray).size := by decide +kernel
theorem itoa_small (i : Nat) (hi : i < 40) (w : World) : Calls Tryd.prog 64 #[.int .i64 (i : Int)] w (fun e w' => ∃ t, e = .returned (.string t) ∧ Small 2 t ∧ 1 ≤ t.size ∧ w = w') :=
  (Any.strconv_Itoa_small Tryd.lays171 i (by omega) w).mono fun e w' h => ⟨_, h.1, (dec_small i hi).1, (dec_small i hi).2, h.2.symm⟩

theorem LS_list (i : Nat) (hi : i < 5) : ([.string ⟨#[]⟩, .string ⟨#[]⟩, .string ⟨#[]⟩, .string ⟨#[45]⟩, .string ⟨#[43]⟩] : List Value)[i]? = some (.string (LS.getD i ⟨#[]⟩)) := by
  rcases (show i = 0 ∨ i = 1 ∨ i = 2 ∨ i = 3 ∨ i = 4 by omega) with rfl | rfl | rfl | rfl | rfl <;> rfl
theorem pickLS (i : Nat) (hi : i < 5) : ∃ t, Small 1 t ∧ (∀ W : World, (W.alloc (.cells #[.string ⟨#[]⟩, .string ⟨#[]⟩, .string ⟨#[]⟩, .string ⟨#[45]⟩, .string ⟨#[43]⟩] 9)).cell? ⟨W.heap.size, i, none⟩ = some (.string t)) ∧ (#[.string ⟨#[]⟩, .string ⟨#[]⟩, .string ⟨#[]⟩, .string ⟨#[45]⟩, .string ⟨#[43]⟩] : Array Value)[i]? = some (.string t) ∧ ([.string ⟨#[]⟩, .string ⟨#[]⟩, .string ⟨#[]⟩, .string ⟨#[45]⟩, .string ⟨#[43]⟩] : List Value)[i]? = some (.string t) := by
  refine ⟨LS.getD i ⟨#[]⟩, small_at LS_small hi, fun W => LS_cell W i hi, ?_, LS_list i hi⟩
  rcases (show i = 0 ∨ i = 1 ∨ i = 2 ∨ i = 3 ∨ i = 4 by omega) with rfl | rfl | rfl | rfl | rfl <;> rfl
theorem diceDrew {w : World} {g : Nat} (h : DiceAt 55 w g) : DiceAt 55 w.drew g := h
/-- a small text, and the dice rolled -/
def TextR (w : World) (g n : Nat) (e : Ending) (w' : World) : Prop := ∃ t, e = .returned (.string t) ∧ Small n t ∧ DiceAt 55 w' g ∧ Roll w.heap.size g w w'

set_option maxRecDepth 100000 in
set_option maxHeartbeats 2000000 in
theorem dice_Date (g : Nat) (w : World) (hd : DiceAt 55 w g) :
    Calls Tryd.prog 39 #[.pointer (some ⟨g, 0, none⟩)] w (TextR w g 10) := by
  obtain ⟨w0, hw0⟩ : ∃ w0, w0 = w := ⟨_, rfl⟩
  rw [← hw0] at hd ⊢
  clear hw0
  have HD0 := hid hd
  have HR0 := hid (Roll.refl w0.heap.size g w0)
  clear hd
  go_enter Tryd.func39, Tryd.ntmps39
  go_wp2_with fail
  have hd0' : DiceAt 55 (w0.alloc (.cells #[.string ⟨#[50, 48, 50, 52]⟩, .string ⟨#[49, 57, 57, 57]⟩, .string ⟨#[50, 48, 50, 54]⟩, .string ⟨#[49, 57, 48, 48]⟩, .string ⟨#[48, 48, 48, 49]⟩, .string ⟨#[57, 57, 57, 57]⟩] 9)) g := HD0.out.alloc _
  have hl0 := HD0.out.lt
  with_reducible refine (dice_Pick g 6 _ hd0' (by omega) (by omega)).mono ?_
  rintro e w1 ⟨m1, rfl, hm1, hd1, hr1, hs1⟩
  have c1 : w1.cell? ⟨w0.heap.size, m1, none⟩ = some (.string (LY.getD m1 ⟨#[]⟩)) := (hr1.cell (p := ⟨w0.heap.size, m1, none⟩) (by simp) (by show w0.heap.size ≠ g; omega)).trans (LY_cell w0 m1 (by omega))
  have HS1 := hid (small_at LY_small (i := m1) (by show m1 < 6; omega))
  have HD1 := hid hd1
  have HR1 := hid (HR0.out.trans (((Roll.refl w0.heap.size g w0).alloc (Nat.le_refl _) (.cells #[.string ⟨#[50, 48, 50, 52]⟩, .string ⟨#[49, 57, 57, 57]⟩, .string ⟨#[50, 48, 50, 54]⟩, .string ⟨#[49, 57, 48, 48]⟩, .string ⟨#[48, 48, 48, 49]⟩, .string ⟨#[57, 57, 57, 57]⟩] 9)).trans (hr1.mono (by simp)) |>.mono (by have := HR0.out.size; omega)))
  clear hd0' hd1 hr1 hs1
  generalize LY.getD m1 ⟨#[]⟩ = t1 at *
  go_wp2_with fail
  have hd1' : DiceAt 55 (w1.alloc (.cells #[.string ⟨#[48, 49]⟩, .string ⟨#[48, 50]⟩, .string ⟨#[49, 50]⟩, .string ⟨#[49, 49]⟩, .string ⟨#[49, 51]⟩] 9)) g := HD1.out.alloc _
  have hl1 := HD1.out.lt
  with_reducible refine (dice_Pick g 5 _ hd1' (by omega) (by omega)).mono ?_
  rintro e w2 ⟨m2, rfl, hm2, hd2, hr2, hs2⟩
  have c2 : w2.cell? ⟨w1.heap.size, m2, none⟩ = some (.string (LM.getD m2 ⟨#[]⟩)) := (hr2.cell (p := ⟨w1.heap.size, m2, none⟩) (by simp) (by show w1.heap.size ≠ g; omega)).trans (LM_cell w1 m2 (by omega))
  have HS2 := hid (small_at LM_small (i := m2) (by show m2 < 5; omega))
  have HD2 := hid hd2
  have HR2 := hid (HR1.out.trans (((Roll.refl w1.heap.size g w1).alloc (Nat.le_refl _) (.cells #[.string ⟨#[48, 49]⟩, .string ⟨#[48, 50]⟩, .string ⟨#[49, 50]⟩, .string ⟨#[49, 49]⟩, .string ⟨#[49, 51]⟩] 9)).trans (hr2.mono (by simp)) |>.mono (by have := HR1.out.size; omega)))
  clear hd1' hd2 hr2 hs2
  generalize LM.getD m2 ⟨#[]⟩ = t2 at *
  go_wp2_with fail
  have hd2' : DiceAt 55 (w2.alloc (.cells #[.string ⟨#[48, 49]⟩, .string ⟨#[50, 56]⟩, .string ⟨#[50, 57]⟩, .string ⟨#[51, 48]⟩, .string ⟨#[51, 49]⟩] 9)) g := HD2.out.alloc _
  have hl2 := HD2.out.lt
  with_reducible refine (dice_Pick g 5 _ hd2' (by omega) (by omega)).mono ?_
  rintro e w3 ⟨m3, rfl, hm3, hd3, hr3, hs3⟩
  have c3 : w3.cell? ⟨w2.heap.size, m3, none⟩ = some (.string (LT.getD m3 ⟨#[]⟩)) := (hr3.cell (p := ⟨w2.heap.size, m3, none⟩) (by simp) (by show w2.heap.size ≠ g; omega)).trans (LT_cell w2 m3 (by omega))
  have HS3 := hid (small_at LT_small (i := m3) (by show m3 < 5; omega))
  have HD3 := hid hd3
  have HR3 := hid (HR2.out.trans (((Roll.refl w2.heap.size g w2).alloc (Nat.le_refl _) (.cells #[.string ⟨#[48, 49]⟩, .string ⟨#[50, 56]⟩, .string ⟨#[50, 57]⟩, .string ⟨#[51, 48]⟩, .string ⟨#[51, 49]⟩] 9)).trans (hr3.mono (by simp)) |>.mono (by have := HR2.out.size; omega)))
  clear hd2' hd3 hr3 hs3
  generalize LT.getD m3 ⟨#[]⟩ = t3 at *
  go_wp2_with fail
  with_reducible refine (dice_Pick g 3 _ HD3.out (by omega) (by omega)).mono ?_
  rintro e w4 ⟨m4, rfl, hm4, hd4, hr4, hs4⟩
  have HD4 := hid hd4
  have HR4 := hid (HR3.out.trans (hr4.mono HR3.out.size))
  have HK : Small 1 (⟨#[45]⟩ : ByteArray) ∧ Small 1 (⟨#[47]⟩ : ByteArray) ∧ Small 1 (⟨#[46]⟩ : ByteArray) := by decide
  have HK' := hid HK
  have z1 := HS1.out.1
  have z2 := HS2.out.1
  have z3 := HS3.out.1
  clear hd4 hr4 HK
  rcases (show m4 = 0 ∨ m4 = 1 ∨ m4 = 2 by omega) with rfl | rfl | rfl
  · go_wp2
    go_ret
    exact ⟨_, rfl, (((HS1.out.app HK'.out.1).app HS2.out).app HK'.out.1).app HS3.out, HD4.out, HR4.out⟩
  · go_wp2
    go_ret
    exact ⟨_, rfl, (((HS1.out.app HK'.out.2.1).app HS2.out).app HK'.out.2.1).app HS3.out, HD4.out, HR4.out⟩
  · go_wp2
    go_ret
    exact ⟨_, rfl, ((((HS3.out.app HK'.out.2.2).app HS2.out).app HK'.out.2.2).app HS1.out), HD4.out, HR4.out⟩

set_option maxRecDepth 100000 in
set_option maxHeartbeats 4000000 in
theorem dice_Number (g : Nat) (w : World) (hd : DiceAt 55 w g) :
    Calls Tryd.prog 38 #[.pointer (some ⟨g, 0, none⟩)] w (TextR w g 14) := by
  have hgl := hd.lt
  have HD := hid hd
  clear hd
  go_enter Tryd.func38, Tryd.ntmps38
  go_upto_region 1 with fail
  go_cut [3] (fun v wc => ∃ t, v = .string t ∧ Small 3 t ∧ 1 ≤ t.size ∧ DiceAt 55 wc g ∧ Roll w.heap.size g w wc)
  case first =>
    go_region_with (first
      | (go_at_call_of 11 (Value.int .i64 5); (with_reducible refine (dice_Pick g 5 _ (by first | exact HD.out | exact diceDrew HD.out | exact diceDrew (HD.out.alloc _) | exact HD.out.alloc _) (by omega) (by omega)).mono ?_); rintro e w5 ⟨m5, rfl, hm5, hd5, hr5, hs5⟩; have HS5 := hid hs5; have HD5 := hid hd5; have HR5 : Hid (Roll w.heap.size g w w5) := hid (by first | exact ((Roll.refl w.heap.size g w).drewN 1).trans hr5 | exact (((Roll.refl w.heap.size g w).alloc (Nat.le_refl _) _).drewN 1).trans (hr5.mono (by simp))); obtain ⟨t5, hL5, cS, cL, cL2⟩ := pickLS m5 (by omega); (try (have cA := (hr5.cell (p := ⟨w.heap.size, m5, none⟩) (by simp) (by show w.heap.size ≠ g; omega)).trans (cS w))); have HL5 := hid hL5; have z5 := hL5.1; clear hL5; clear hs5 hd5)
      | (go_at_call_of 11 (Value.int .i64 40); (with_reducible refine (dice_Pick g 40 _ (by first | exact HD5.out | exact HD5.out.alloc _) (by omega) (by omega)).mono ?_); rintro e w40 ⟨m40, rfl, hm40, hd40, hr40, hs40⟩; have HS40 := hid hs40; have HD40 := hid hd40; have HR40 : Hid (Roll w.heap.size g w w40) := hid (by first | exact HR5.out.trans (hr40.mono HR5.out.size) | exact (HR5.out.alloc HR5.out.size _).trans (hr40.mono (by have := HR5.out.size; simp; omega))); (try (have cB := (hr40.cell (p := ⟨w.heap.size, m5, none⟩) (by have := World.block_lt_of_cell? _ _ cA; exact this) (by show w.heap.size ≠ g; omega)).trans cA)); (try (have cC := (hr40.cell (p := ⟨w5.heap.size, m5, none⟩) (by simp) (by have := HR5.out.size; show w5.heap.size ≠ g; omega)).trans (cS w5))); clear hs40 hd40)
      | (go_at_call 64; (with_reducible refine (itoa_small m40 (by omega) _).mono ?_); rintro e w6 ⟨t6, rfl, hs6, h16, rfl⟩; have HS6 := hid hs6; have z6 := hs6.1; clear hs6))
    all_goals go_wp2_with fail
    all_goals go_meet
    all_goals exact ⟨_, rfl, HL5.out.app HS6.out, by rw [ByteArray.size_append]; omega, by first | exact HD40.out | exact HD40.out.alloc _, by first | exact HR40.out | exact HR40.out.alloc HR40.out.size _⟩
  case rest =>
    obtain ⟨t, rfl, hsm, ht1, hd1, hr1⟩ := hcut
    have HSM := hid hsm
    have HD1 := hid hd1
    have HR1 := hid hr1
    have z1 := hsm.1
    have HK : Hid (Small 1 (⟨#[48]⟩ : ByteArray) ∧ Small 1 (⟨#[46]⟩ : ByteArray)) := hid (by decide)
    clear hsm hd1 hr1
    go_wp2_with fail
    with_reducible refine (dice_Pick g 3 _ HD1.out (by omega) (by omega)).mono ?_
    rintro e w2 ⟨m2, rfl, hm2, hd2, hr2, hs2⟩
    have HD2 := hid hd2
    have HR2 := hid (HR1.out.trans (hr2.mono HR1.out.size))
    clear hd2 hr2 hs2
    go_upto_if 15 with fail
    go_cut [3] (fun v wc => ∃ t, v = .string t ∧ Small 4 t ∧ w2 = wc)
    case first =>
      by_cases hm0 : m2 = 0
      · subst hm0
        have hus : ((⟨#[48]⟩ : ByteArray) ++ t).size = t.size + 1 := by rw [ByteArray.size_append]; show 1 + _ = _; omega
        have HU := hid (HK.out.1.app HSM.out)
        generalize hgu : (⟨#[48]⟩ : ByteArray) ++ t = u at *
        have hu2 : 2 ≤ u.size := by omega
        have hu3 : u.size ≤ 4 := by omega
        have HEX : Hid (Small 4 (u.extract 1 u.size)) := hid ⟨by simp; omega, fun c hc => HU.out.2 c (by
          rw [ByteArray.data_extract, Array.toList_extract, List.extract_eq_take_drop] at hc
          exact List.drop_subset _ _ (List.take_subset _ _ hc))⟩
        have hik : ∀ W, (Instr.index 9 (.string u) (.int .i64 1)).run Tryd.prog W = .ok (.int .u8 (((u[1]'(by omega)).toNat : Nat) : Int)) W := fun W => by
          rw [run_index_string _ _ _ _ _ Tryd.underlying9, dif_pos ⟨by omega, by omega⟩]
          rfl
        have hcb : (u[1]'(by omega)).toNat < 256 := UInt8.toNat_lt _
        generalize (u[1]'(by omega)).toNat = c at *
        clear hus
        by_cases h1 : c < 48
        · go_wp2_with fail
          go_meet
          exact ⟨_, rfl, HEX.out, rfl⟩
        · by_cases h2 : 57 < c
          · go_wp2_with fail
            go_meet
            exact ⟨_, rfl, HEX.out, rfl⟩
          · go_wp2_with fail
            go_meet
            exact ⟨_, rfl, HU.out, rfl⟩
      · have hm0' : ((m2 : Int) == 0) = false := by simp; omega
        go_wp2_with fail
        go_meet
        exact ⟨t, rfl, HSM.out.more (by omega), rfl⟩
    case rest =>
      clear HSM z1 ht1
      obtain ⟨t', rfl, hsm, rfl⟩ := hcut
      have HSM := hid hsm
      have z1 := hsm.1
      clear hsm
      go_wp2_with fail
      with_reducible refine (dice_Pick g 3 _ HD2.out (by omega) (by omega)).mono ?_
      rintro e w3 ⟨m3, rfl, hm3, hd3, hr3, hs3⟩
      have HD3 := hid hd3
      have HR3 := hid (HR2.out.trans (hr3.mono HR2.out.size))
      clear hd3 hr3 hs3
      by_cases hm0 : m3 = 0
      · subst hm0
        go_wp2_with fail
        have hd3' : DiceAt 55 (w3.alloc (.cells #[.string ⟨#[53]⟩, .string ⟨#[53, 48]⟩, .string ⟨#[48]⟩, .string ⟨#[49, 50, 53]⟩, .string ⟨#[48, 48, 55]⟩, .string ⟨#[48, 48, 48, 48, 48, 48, 48, 48, 49]⟩] 9)) g := HD3.out.alloc _
        have hl3 := HD3.out.lt
        with_reducible refine (dice_Pick g 6 _ hd3' (by omega) (by omega)).mono ?_
        rintro e w4 ⟨m4, rfl, hm4, hd4, hr4, hs4⟩
        have c4 : w4.cell? ⟨w3.heap.size, m4, none⟩ = some (.string (LF.getD m4 ⟨#[]⟩)) := (hr4.cell (p := ⟨w3.heap.size, m4, none⟩) (by simp) (by show w3.heap.size ≠ g; omega)).trans (LF_cell w3 m4 (by omega))
        have HS4 := hid (small_at LF_small (i := m4) (by show m4 < 6; omega))
        have z4 := HS4.out.1
        have HD4 := hid hd4
        have HR4 := hid (HR3.out.trans (((Roll.refl w3.heap.size g w3).alloc (Nat.le_refl _) (.cells #[.string ⟨#[53]⟩, .string ⟨#[53, 48]⟩, .string ⟨#[48]⟩, .string ⟨#[49, 50, 53]⟩, .string ⟨#[48, 48, 55]⟩, .string ⟨#[48, 48, 48, 48, 48, 48, 48, 48, 49]⟩] 9)).trans (hr4.mono (by simp)) |>.mono (by have := HR3.out.size; omega)))
        clear hd3' hd4 hr4 hs4
        generalize LF.getD m4 ⟨#[]⟩ = t4 at *
        go_wp2
        go_ret
        exact ⟨_, rfl, HSM.out.app (HK.out.2.app HS4.out), HD4.out, HR4.out⟩
      · have hm0' : ((m3 : Int) == 0) = false := by simp; omega
        go_wp2
        go_ret
        exact ⟨_, rfl, HSM.out.more (by omega), HD3.out, HR3.out⟩

end Go.Proofs.YtdncdlcfgljheaaDoor
