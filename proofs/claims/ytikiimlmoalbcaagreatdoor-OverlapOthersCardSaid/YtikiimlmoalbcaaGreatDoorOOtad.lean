/- Contracts of the dice's Cell, Column. -/
import Derived.Test.YtikiimlmoalbcaaGreatDoorOOtab
import Derived.Test.YtikiimlmoalbcaaGreatDoorOOtac
set_option linter.unusedVariables false
set_option linter.unusedSimpArgs false
namespace Go.Proofs.YtikiimlmoalbcaaGreatDoor
open Go.RowKit
theorem words_ok : ∀ x ∈ wordsL, TextOk 8 x := by unfold TextOk; decide +kernel
theorem dec_ok : ∀ i, i < 40 → TextOk 2 ⟨(Lib.decDigits i).toArray⟩ := by unfold TextOk; decide +kernel
def CellR (w : World) (g : Nat) (e : Ending) (w' : World) : Prop :=
  ∃ c : Cl, e = .returned (.agg #[.bool c.null, .string c.text]) ∧ CellOk c ∧ DiceAt 89 w' g ∧ Roll w.heap.size g w w'
theorem three_at (i : Nat) (h : i < 3) : ∃ z : Nat, 1 ≤ z ∧ z ≤ 16 ∧ (#[.int .i64 3, .int .i64 6, .int .i64 16] : Array Value)[i]? = some (.int .i64 (z : Int)) := by
  rcases (show i = 0 ∨ i = 1 ∨ i = 2 by omega) with rfl | rfl | rfl
  · exact ⟨3, by omega, by omega, rfl⟩
  · exact ⟨6, by omega, by omega, rfl⟩
  · exact ⟨16, by omega, by omega, rfl⟩
set_option maxHeartbeats 1000000 in
theorem dice_Cell (g : Nat) (w : World) (hd : DiceAt 89 w g) :
  Calls Tryz.prog 183 #[.pointer (some ⟨g, 0, none⟩)] w (CellR w g) := by
 have hgl := hd.lt
 have HD := hid hd
 clear hd
 go_enter Tryz.func183, Tryz.ntmps183
 go_wp2_with fail
 have hd0 : DiceAt 89 (w.alloc (.cells #[.bool false, .string ⟨#[]⟩] 185)) g := HD.out.alloc _
 have hr0 : Roll w.heap.size g w (w.alloc (.cells #[.bool false, .string ⟨#[]⟩] 185)) := (Roll.refl _ _ _).alloc (Nat.le_refl _) _
 have hb0 := BoxN.new w #[.bool false, .string ⟨#[]⟩] 185
 with_reducible refine (dice_Pick g _ _ hd0 (by omega) (by omega)).mono ?_
 rintro e w1 ⟨m, rfl, hm, hd1, hr1, hs1⟩
 have HB1 := hid (hb0.roll hr1 (by simp) (by omega))
 have HR1 := hid (hr0.trans (hr1.mono (by simp)))
 have HD1 := hid hd1
 have c0 := HB1.out.cell 0 rfl
 have c1 := HB1.out.cell 1 rfl
 have f0 := HB1.out.frozen 0
 have f1 := HB1.out.frozen 1
 have hz1 := HB1.out.lt
 clear hd0 hr0 hb0 hd1 hr1 hs1
 by_cases h0 : m = 0
 ·subst h0
  go_wp2
  refine bodyPost_ret (by simp [results, Tryz.results183, go_sem, c0, c1]; rfl) rfl ?_
  exact ⟨⟨true, ⟨#[]⟩⟩, rfl, cellOk_null, HD1.out.below (B := w.heap.size) (by have := Below.refl w.heap.size w1; repeat' (first | (with_reducible exact Below.refl _ _) | (with_reducible assumption) | (with_reducible refine below_drewN ?_) | (with_reducible refine Below.alloc ?_ ?_ _) | (with_reducible refine Below.drew ?_) | (with_reducible refine Below.setCell ?_ ?_ _) | (with_reducible refine Below.trans ?_ (Below.mono (by with_reducible assumption) ?_)) | go_size)) hgl, HR1.out.trans (Roll.of_below (by repeat' (first | (with_reducible exact Below.refl _ _) | (with_reducible assumption) | (with_reducible refine below_drewN ?_) | (with_reducible refine Below.alloc ?_ ?_ _) | (with_reducible refine Below.drew ?_) | (with_reducible refine Below.setCell ?_ ?_ _) | (with_reducible refine Below.trans ?_ (Below.mono (by with_reducible assumption) ?_)) | go_size)) g)⟩
 ·clear c0 c1 f0 f1
  go_wp2_with fail
  with_reducible refine (mill_Words _).mono ?_
  rintro e W1 ⟨rfl, rfl⟩
  go_wp2_with fail
  with_reducible refine (mill_Words _).mono ?_
  rintro e W2 ⟨rfl, rfl⟩
  go_wp2_with fail
  have hd2 : DiceAt 89 (((w1.alloc (.cells wordsC 9)).alloc (.cells wordsC 9)).alloc (.cells #[.int .i64 3, .int .i64 6, .int .i64 16] 3)) g := ((HD1.out.alloc _).alloc _).alloc _
  have hb2 := ((HB1.out.alloc (.cells wordsC 9)).alloc (.cells wordsC 9)).alloc (.cells #[.int .i64 3, .int .i64 6, .int .i64 16] 3)
  have hw2 := ((BoxN.new w1 wordsC 9).alloc (.cells wordsC 9)).alloc (.cells #[.int .i64 3, .int .i64 6, .int .i64 16] 3)
  have hn2 := BoxN.new ((w1.alloc (.cells wordsC 9)).alloc (.cells wordsC 9)) #[.int .i64 3, .int .i64 6, .int .i64 16] 3
  have hr2 := ((HR1.out.alloc (by omega) (.cells wordsC 9)).alloc (by simp; omega) (.cells wordsC 9)).alloc (by simp; omega) (.cells #[.int .i64 3, .int .i64 6, .int .i64 16] 3)
  have hz2 : (((w1.alloc (.cells wordsC 9)).alloc (.cells wordsC 9)).alloc (.cells #[.int .i64 3, .int .i64 6, .int .i64 16] 3)).heap.size = w1.heap.size + 3 := by simp
  simp only [World.size_alloc] at hn2
  with_reducible refine (dice_Pick g _ _ hd2 (by omega) (by omega)).mono ?_
  clear hd2
  generalize (((w1.alloc (.cells wordsC 9)).alloc (.cells wordsC 9)).alloc (.cells #[.int .i64 3, .int .i64 6, .int .i64 16] 3)) = W3 at *
  rintro e w3 ⟨k, rfl, hk, hd3, hr3, hs3⟩
  obtain ⟨z, hz1', hz16, hzk⟩ := three_at k (by omega)
  have n3 := (hn2.roll hr3 (by omega) (by omega)).cell k hzk
  have HW3 := hid (hw2.roll hr3 (by omega) (by omega))
  have HB3 := hid (hb2.roll hr3 (by omega) (by omega))
  have HR3 := hid (hr2.trans (hr3.mono (by omega)))
  have HD3 := hid hd3
  clear hn2 hw2 hb2 hr2 hd3 hr3 hzk
  go_wp2_with fail
  with_reducible refine (dice_Pick g _ _ HD3.out (by omega) (by omega)).mono ?_
  rintro e w4 ⟨r, rfl, hr, hd4, hr4, hs4⟩
  have HW4 := hid (HW3.out.roll hr4 (by omega) (by omega))
  have HB4 := hid (HB3.out.roll hr4 (by omega) (by omega))
  have HR4 := hid (HR3.out.trans (hr4.mono (by omega)))
  have HD4 := hid hd4
  have hrl : r < wordsL.length := by show r < 16; omega
  have cw : w4.cell? ⟨w1.heap.size, r, none⟩ = some (.string (wordsL.getD r ⟨#[]⟩)) := HW4.out.cell r (by simp [wordsC, List.getD, hrl])
  have HOK := hid (words_ok _ (word_mem r (by omega)))
  have c0 := HB4.out.cell 0 rfl
  have c1 := HB4.out.cell 1 rfl
  have f0 := HB4.out.frozen 0
  have f1 := HB4.out.frozen 1
  clear hd4 hr4 n3 hrl
  generalize wordsL.getD r ⟨#[]⟩ = s at *
  go_wp2
  refine bodyPost_ret (by simp [results, Tryz.results183, go_sem, c0, c1]; rfl) rfl ?_
  exact ⟨⟨false, s⟩, rfl, cellOk_text HOK.out, HD4.out.below (B := w.heap.size) (by have := Below.refl w.heap.size w4; repeat' (first | (with_reducible exact Below.refl _ _) | (with_reducible assumption) | (with_reducible refine below_drewN ?_) | (with_reducible refine Below.alloc ?_ ?_ _) | (with_reducible refine Below.drew ?_) | (with_reducible refine Below.setCell ?_ ?_ _) | (with_reducible refine Below.trans ?_ (Below.mono (by with_reducible assumption) ?_)) | go_size)) hgl, HR4.out.trans (Roll.of_below (by repeat' (first | (with_reducible exact Below.refl _ _) | (with_reducible assumption) | (with_reducible refine below_drewN ?_) | (with_reducible refine Below.alloc ?_ ?_ _) | (with_reducible refine Below.drew ?_) | (with_reducible refine Below.setCell ?_ ?_ _) | (with_reducible refine Below.trans ?_ (Below.mono (by with_reducible assumption) ?_)) | go_size)) g)⟩
theorem itoa_ok (i : Nat) (hi : i < 40) (w : World) : Calls Tryz.prog 184 #[.int .i64 (i : Int)] w (fun e w' => ∃ t, e = .returned (.string t) ∧ TextOk 2 t ∧ w = w') :=
  (Any.strconv_Itoa_small Tryz.layItoa i (by omega) w).mono fun e w' h => ⟨_, h.1, dec_ok i hi, h.2.symm⟩
def ColOk (n : Nat) (x : Co) : Prop := TextOk 4 x.name ∧ x.cells.length = n ∧ ∀ c ∈ x.cells, CellOk c
def ColR (w : World) (g n : Nat) (e : Ending) (w' : World) : Prop :=
  ∃ (x : Co) (v : Value), e = .returned (.agg #[.string x.name, v]) ∧ ColOk n x ∧ RdCl w' (News w w') v x.cells ∧ DiceAt 89 w' g ∧ Roll w.heap.size g w w'
def colNames : List ByteArray := [⟨#[110, 97, 109, 101]⟩, ⟨#[99, 105, 116, 121]⟩, ⟨#[99]⟩, ⟨#[]⟩]
theorem colNames_ok : ∀ x ∈ colNames, TextOk 4 x := by unfold TextOk; decide +kernel
theorem colName_at (i : Nat) (h : i < 4) : ∃ z : ByteArray, TextOk 4 z ∧ (#[.string ⟨#[110, 97, 109, 101]⟩, .string ⟨#[99, 105, 116, 121]⟩, .string ⟨#[99]⟩, .string ⟨#[]⟩] : Array Value)[i]? = some (.string z) := by
  rcases (show i = 0 ∨ i = 1 ∨ i = 2 ∨ i = 3 by omega) with rfl | rfl | rfl | rfl
  · exact ⟨_, colNames_ok _ (.head _), rfl⟩
  · exact ⟨_, colNames_ok _ (.tail _ (.head _)), rfl⟩
  · exact ⟨_, colNames_ok _ (.tail _ (.tail _ (.head _))), rfl⟩
  · exact ⟨_, colNames_ok _ (.tail _ (.tail _ (.tail _ (.head _)))), rfl⟩
structure ColSt (w0 ws w : World) (g cb base n : Nat) (nm : ByteArray) (v : Value) (cs : List Cl) : Prop where
  box : BoxN w cb 139 #[.string nm, v]
  own : w.ownsRow base 185 2 v cs.length (flatK 2 cs.length (clF cs))
  ok : ∀ c ∈ cs, CellOk c
  dice : DiceAt 89 w g
  roll : Roll w0.heap.size g w0 w
  low : base ≤ w.heap.size
  keep : ∀ k, k < base → k ≠ g → k ≠ cb → w.heap[k]? = ws.heap[k]?
section
variable {w0 ws w w' : World} {g cb base n : Nat} {nm : ByteArray} {v : Value} {cs : List Cl}
theorem ColSt.rolled (h : ColSt w0 ws w g cb base n nm v cs) (hr : Roll w.heap.size g w w') (hd : DiceAt 89 w' g) (hg : g < base) (hne : cb ≠ g) : ColSt w0 ws w' g cb base n nm v cs :=
  ⟨h.box.roll hr h.box.lt hne, own_roll h.own hr (Nat.le_refl _) hg, h.ok, hd, h.roll.trans (hr.mono h.roll.size), Nat.le_trans h.low hr.size, fun k h1 h2 h3 => (hr.block k (Nat.lt_of_lt_of_le h1 h.low) h2).trans (h.keep k h1 h2 h3)⟩
theorem ColSt.alloc (h : ColSt w0 ws w g cb base n nm v cs) (hg : g < base) (hne : cb ≠ g) (O : Obj) : ColSt w0 ws (w.alloc O) g cb base n nm v cs :=
  h.rolled ((Roll.refl _ _ _).alloc (Nat.le_refl _) O) (h.dice.alloc O) hg hne
theorem dice_store {w : World} {t : TypeId} {g : Nat} (h : DiceAt t w g) {p : Addr} (hp : g < p.block) (u : Value) : DiceAt t (w.setCell p u) g := h.keep fun k hk => Below.heap_setCell _ _ _ _ (by omega)
theorem ColSt.store (h : ColSt w0 ws w g cb base n nm v cs) {p : Addr} (hp : base ≤ p.block) (hv : v.ownBlock ≠ some p.block) (hcb : cb < base) (hc0 : w0.heap.size ≤ cb) (hg : g < base) (u : Value) : ColSt w0 ws (w.setCell p u) g cb base n nm v cs :=
  ⟨h.box.other (by omega) u, ownsRow_setCell_other h.own hv u, h.ok, dice_store h.dice (by omega) u, h.roll.trans ⟨rfl, rfl, rfl, by simp, fun k hk _ => Below.heap_setCell _ _ _ _ (by omega)⟩, by simpa using h.low, fun k h1 h2 h3 => (Below.heap_setCell _ _ _ _ (by omega)).trans (h.keep k h1 h2 h3)⟩
theorem ColSt.push (h : ColSt w0 ws w g cb base n nm v cs) {c : Cl} (hc : CellOk c) {p m cap : Nat} (hm : m = cs.length + 1)
    (hown : w'.ownsRow base 185 2 (.slice (some ⟨p, 0, none⟩) m cap) m (flatK 2 cs.length (clF cs) ++ [.bool c.null, .string c.text])) (hgr : w.grownBy w' v.ownBlock) (hcb : cb < base) (hc0 : w0.heap.size ≤ cb) (hg : g < cb) :
    ColSt w0 ws (w'.setCell ⟨cb, 1, none⟩ (.slice (some ⟨p, 0, none⟩) m cap)) g cb base n nm (.slice (some ⟨p, 0, none⟩) m cap) (cs ++ [c]) := by
  have hv : ∀ k, v.ownBlock = some k → base ≤ k := fun k hk => (h.own.lt k hk).1
  have hlo := h.low
  have hx : ∀ k, k < base → w'.heap[k]? = w.heap[k]? := fun k hk => hgr.block k (by omega) (fun e => by have := hv k e.symm; omega)
  subst hm
  refine ⟨(show BoxN w' cb _ _ from (hx cb hcb).trans h.box).set 1 _, ?_, ?_, dice_store (h.dice.keep fun k hk => hx k (by omega)) hg _, ?_, by have := hgr.size; simp; omega, fun k h1 h2 h3 => (Below.heap_setCell _ _ _ _ h3).trans ((hx k h1).trans (h.keep k h1 h2 h3))⟩
  · rw [← cl_push, List.length_append, List.length_singleton]
    exact ownsRow_setCell_below hown hcb _
  · intro x hxm
    rcases List.mem_append.1 hxm with h1 | h1
    · exact h.ok x h1
    · rw [List.mem_singleton.1 h1]; exact hc
  · exact h.roll.trans ⟨hgr.os, hgr.tape, hgr.output, by have := hgr.size; simpa using this, fun k hk hkg => (Below.heap_setCell _ _ _ _ (by show k ≠ cb; omega)).trans (hx k (by omega))⟩
end
set_option maxRecDepth 100000 in
set_option maxHeartbeats 2000000 in
theorem dice_Column (g n : Nat) (w : World) (hd : DiceAt 89 w g) (hn : n ≤ 4096) :
  Calls Tryz.prog 150 #[.pointer (some ⟨g, 0, none⟩), .int .i64 (n : Int)] w (ColR w g n) := by
 have hgl := hd.lt
 have HD := hid hd
 obtain ⟨i0, hi, hz0, hz1, hz2⟩ := info_parts info_cell
 clear hd
 go_enter Tryz.func150, Tryz.ntmps150
 generalize hLA : Code.loop _ = LA
 go_wp2_with fail
 have hd0 := (HD.out.alloc (.cells #[.string ⟨#[]⟩, .slice none 0 0] 139)).alloc (.cells #[.string ⟨#[110, 97, 109, 101]⟩, .string ⟨#[99, 105, 116, 121]⟩, .string ⟨#[99]⟩, .string ⟨#[]⟩] 9)
 have hr0 := ((Roll.refl w.heap.size g w).alloc (Nat.le_refl _) (.cells #[.string ⟨#[]⟩, .slice none 0 0] 139)).alloc (by simp) (.cells #[.string ⟨#[110, 97, 109, 101]⟩, .string ⟨#[99, 105, 116, 121]⟩, .string ⟨#[99]⟩, .string ⟨#[]⟩] 9)
 have hb0 := (BoxN.new w #[.string ⟨#[]⟩, .slice none 0 0] 139).alloc (.cells #[.string ⟨#[110, 97, 109, 101]⟩, .string ⟨#[99, 105, 116, 121]⟩, .string ⟨#[99]⟩, .string ⟨#[]⟩] 9)
 have hn0 := BoxN.new (w.alloc (.cells #[.string ⟨#[]⟩, .slice none 0 0] 139)) #[.string ⟨#[110, 97, 109, 101]⟩, .string ⟨#[99, 105, 116, 121]⟩, .string ⟨#[99]⟩, .string ⟨#[]⟩] 9
 have hz0' : ((w.alloc (.cells #[.string ⟨#[]⟩, .slice none 0 0] 139)).alloc (.cells #[.string ⟨#[110, 97, 109, 101]⟩, .string ⟨#[99, 105, 116, 121]⟩, .string ⟨#[99]⟩, .string ⟨#[]⟩] 9)).heap.size = w.heap.size + 2 := by simp
 simp only [World.size_alloc] at hn0
 with_reducible refine (dice_Pick g _ _ hd0 (by omega) (by omega)).mono ?_
 clear hd0
 generalize ((w.alloc (.cells #[.string ⟨#[]⟩, .slice none 0 0] 139)).alloc (.cells #[.string ⟨#[110, 97, 109, 101]⟩, .string ⟨#[99, 105, 116, 121]⟩, .string ⟨#[99]⟩, .string ⟨#[]⟩] 9)) = W0 at *
 rintro e w1 ⟨m, rfl, hm, hd1, hr1, hs1⟩
 obtain ⟨nm, hnm, hcm⟩ := colName_at m (by omega)
 have c1 := (hn0.roll hr1 (by omega) (by omega)).cell m hcm
 have HB1 := hid (hb0.roll hr1 (by omega) (by omega))
 have HR1 := hid (hr0.trans (hr1.mono (by omega)))
 have HD1 := hid hd1
 have HNM := hid hnm
 clear hn0 hb0 hr0 hr1 hd1 hcm hnm
 go_wp2_with fail
 have hd2 := HD1.out.alloc (.cells #[.string nm, .slice none 0 0] 139)
 have hr2 := HR1.out.alloc (by omega) (.cells #[.string nm, .slice none 0 0] 139)
 have hb2 := HB1.out.alloc (.cells #[.string nm, .slice none 0 0] 139)
 have hc2 := BoxN.new w1 #[.string nm, .slice none 0 0] 139
 have hz2' : (w1.alloc (.cells #[.string nm, .slice none 0 0] 139)).heap.size = w1.heap.size + 1 := by simp
 with_reducible refine (dice_Pick g _ _ hd2 (by omega) (by omega)).mono ?_
 clear hd2 c1
 generalize (w1.alloc (.cells #[.string nm, .slice none 0 0] 139)) = W1 at *
 rintro e w2 ⟨k, rfl, hk, hd2, hr2', hs2⟩
 have HB2 := hid (hb2.roll hr2' (by omega) (by omega))
 have hcb : w1.heap.size = w.heap.size + 2 := by omega
 have HC2 := hid (hc2.roll hr2' (by omega) (by omega))
 rw [hcb] at HC2
 have HR2 := hid (hr2.trans (hr2'.mono (by omega)))
 have HD2 := hid hd2
 clear hb2 hc2 hr2 hr2' hd2 hcb
 go_wp2_with fail
 generalize ((k : Int) == 0) = nb
 subst hLA
 go_loopg [7] n (fun N i wr => ∃ (v : Value) (cs : List Cl), i = .int .i64 (cs.length : Int) ∧ cs.length + N = n ∧ Hid (ColSt w w2 wr g (w.heap.size + 2) w2.heap.size n nm v cs))
 case atStart => exact ⟨.slice none 0 0, [], rfl, by simp, hid ⟨HC2.out, World.ownsRow_nil _ _ _ _, by simp, HD2.out, HR2.out, Nat.le_refl _, fun _ _ _ _ => rfl⟩⟩
 case round =>
  obtain ⟨v, cs, rfl, hl, HST⟩ := hrel
  obtain ⟨va, vc, rfl⟩ := own_slice HST.out.own
  have hcz := HC2.out.lt
  generalize hbs : w2.heap.size = base at *
  have HBS := hid hbs
  clear hbs
  generalize hcl : cs.length = L at *
  have HCL := hid hcl
  clear hcl
  by_cases hp : 0 < gk
  ·have hlt : (L : Int) < n := by omega
   go_wp2_with fail
   with_reducible refine (dice_Cell g _ HST.out.dice).mono ?_
   rintro e w3 ⟨⟨nl, tx⟩, rfl, hok, hd3, hr3⟩
   have HST3 := hid (HST.out.rolled hr3 hd3 (by omega) (by omega))
   have HOK := hid hok
   clear hd3 hr3 hok
   by_cases hbr : nb = true ∧ nl = false
   ·obtain ⟨rfl, rfl⟩ := hbr
    go_wp2_with fail
    have hst4 := HST3.out.alloc (by omega) (by omega) (.cells #[.bool false, .string tx] 185)
    have hx4 := BoxN.new w3 #[.bool false, .string tx] 185
    with_reducible refine (dice_Pick g _ _ hst4.dice (by omega) (by omega)).mono ?_
    have hz4 : (w3.alloc (.cells #[.bool false, .string tx] 185)).heap.size = w3.heap.size + 1 := by simp
    generalize w3.alloc (.cells #[.bool false, .string tx] 185) = W4 at *
    rintro e w5 ⟨q, rfl, hq, hd5, hr5, hs5⟩
    have HST5 := hid (hst4.rolled hr5 hd5 (by omega) (by omega))
    have HX5 := hid (hx4.roll hr5 (by omega) (by have := HST3.out.dice.lt; omega))
    have hxb := HST3.out.own.lt
    clear hst4 hx4 hd5 hr5
    go_wp2_with fail
    with_reducible refine (itoa_ok q (by omega) _).mono ?_
    rintro e w6 ⟨t, rfl, ht, rfl⟩
    have hxl := HX5.out.lt
    have HST6 := hid (HST5.out.store (p := ⟨w3.heap.size, 1, none⟩) (by have := HST3.out.low; exact this) (fun e => by have := (HST3.out.own.lt _ e).2; simp at this) (by omega) (by omega) (by omega) (.string t))
    have hx6 := HX5.out.set 1 (.string t)
    have s0 := hx6.cell 0 rfl
    have s1 := hx6.cell 1 rfl
    have s2 := HST6.out.box.cell 1 rfl
    have HOWN : Hid ((w5.setCell ⟨w3.heap.size, 1, none⟩ (.string t)).ownsRow base 185 2 (.slice va L vc) L (flatK 2 cs.length (clF cs))) := hid (by have := HST6.out.own; rw [HCL.out] at this; rw [HCL.out]; exact this)
    have HOB := hid (HST6.out.own.lt)
    have d0 := HX5.out.cell 0 rfl
    have d1 := HX5.out.cell 1 rfl
    have fd1 := HX5.out.frozen 1
    have hlo := HST6.out.low
    simp only [World.size_setCell] at hlo
    have HOK6 : Hid (CellOk ⟨false, t⟩) := hid (cellOk_text (ht.more (by omega)))
    clear hx6 ht hs5 hz4
    go_wp2_with (at_builtin; refine wpList_append_form _ rfl _ _ 137 137 rfl base 185 185 i0 (.agg #[.bool false, .string ⟨#[]⟩]) 2 24 Tryz.underlying137 Tryz.underlying137 hi hz0 hz1 hz2 rfl (by decide) (.slice va L vc) L (flatK 2 cs.length (clF cs)) rfl (HOWN.out.alloc _) (some ⟨_, 0, none⟩) 1 1 [.bool false, .string t] rfl rfl (fun _ => ⟨_, rfl, cell_two_at _ _ _ (by simp)⟩) (by intro u hu; simp at hu; rcases hu with rfl | rfl <;> rfl) (by omega) (by unfold maxLen; omega) (by omega) (by simp; omega) ?_; intro p7 cap7 w7 hown7 hg7 hat7 hlt7; have hbx7 := (HST6.out.box.alloc (.cells #[.bool false, .string t] 185)).grown hg7 (fun e => by have := HOB.out _ e.symm; omega); have q1 := hbx7.cell 1 rfl; have fq1 := hbx7.frozen 1; have HG7 := hid ((World.grownBy_alloc _ (.cells #[.bool false, .string t] 185) _).trans hg7); have HOWN7 := hid hown7; clear hown7 hg7 hat7 hbx7)
    go_wp2
    go_roundg (gk - 1)
    case rel => exact ⟨_, cs ++ [⟨false, t⟩], by rw [List.length_append, List.length_singleton, HCL.out]; go_num, by rw [List.length_append, List.length_singleton, HCL.out]; omega, hid (HST6.out.push (c := ⟨false, t⟩) HOK6.out (by rw [HCL.out]) HOWN7.out HG7.out (by omega) (by omega) (by omega))⟩
    case measure => omega
   ·rcases (show nb = false ∨ (nb = true ∧ nl = true) by cases nb <;> cases nl <;> simp_all) with rfl | ⟨rfl, rfl⟩
    ·have HST4 := hid (HST3.out.alloc (by omega) (by omega) (.cells #[.bool nl, .string tx] 185))
     have s2 := HST4.out.box.cell 1 rfl
     have s3 := HST3.out.box.cell 1 rfl
     have HOWN : Hid ((w3.alloc (.cells #[.bool nl, .string tx] 185)).ownsRow base 185 2 (.slice va L vc) L (flatK 2 cs.length (clF cs))) := hid (by have := HST4.out.own; rw [HCL.out] at this; rw [HCL.out]; exact this)
     have HOB := hid (HST4.out.own.lt)
     have hlo := HST4.out.low
     have hlo3 := HST3.out.low
     have hcb3 := HST3.out.box.lt
     clear hbr
     go_wp2_with (at_builtin; refine wpList_append_form _ rfl _ _ 137 137 rfl base 185 185 i0 (.agg #[.bool false, .string ⟨#[]⟩]) 2 24 Tryz.underlying137 Tryz.underlying137 hi hz0 hz1 hz2 rfl (by decide) (.slice va L vc) L (flatK 2 cs.length (clF cs)) rfl (HOWN.out.alloc _) (some ⟨_, 0, none⟩) 1 1 [.bool nl, .string tx] rfl rfl (fun _ => ⟨_, rfl, cell_two_at _ _ _ (by simp)⟩) (by intro u hu; simp at hu; rcases hu with rfl | rfl <;> rfl) (by omega) (by unfold maxLen; omega) (by omega) (by simp; omega) ?_; intro p7 cap7 w7 hown7 hg7 hat7 hlt7; have hbx7 := (HST4.out.box.alloc (.cells #[.bool nl, .string tx] 185)).grown hg7 (fun e => by have := HOB.out _ e.symm; omega); have q1 := hbx7.cell 1 rfl; have fq1 := hbx7.frozen 1; have HG7 := hid ((World.grownBy_alloc _ (.cells #[.bool nl, .string tx] 185) _).trans hg7); have HOWN7 := hid hown7; clear hown7 hg7 hat7 hbx7)
     go_wp2
     go_roundg (gk - 1)
     case rel => exact ⟨_, cs ++ [⟨nl, tx⟩], by rw [List.length_append, List.length_singleton, HCL.out]; go_num, by rw [List.length_append, List.length_singleton, HCL.out]; omega, hid (HST4.out.push (c := ⟨nl, tx⟩) HOK.out (by rw [HCL.out]) HOWN7.out HG7.out (by omega) (by omega) (by omega))⟩
     case measure => omega
    ·have HST4 := hid (HST3.out.alloc (by omega) (by omega) (.cells #[.bool true, .string tx] 185))
     have s2 := HST4.out.box.cell 1 rfl
     have s3 := HST3.out.box.cell 1 rfl
     have HOWN : Hid ((w3.alloc (.cells #[.bool true, .string tx] 185)).ownsRow base 185 2 (.slice va L vc) L (flatK 2 cs.length (clF cs))) := hid (by have := HST4.out.own; rw [HCL.out] at this; rw [HCL.out]; exact this)
     have HOB := hid (HST4.out.own.lt)
     have hlo := HST4.out.low
     have hlo3 := HST3.out.low
     have hcb3 := HST3.out.box.lt
     clear hbr
     go_wp2_with (at_builtin; refine wpList_append_form _ rfl _ _ 137 137 rfl base 185 185 i0 (.agg #[.bool false, .string ⟨#[]⟩]) 2 24 Tryz.underlying137 Tryz.underlying137 hi hz0 hz1 hz2 rfl (by decide) (.slice va L vc) L (flatK 2 cs.length (clF cs)) rfl (HOWN.out.alloc _) (some ⟨_, 0, none⟩) 1 1 [.bool true, .string tx] rfl rfl (fun _ => ⟨_, rfl, cell_two_at _ _ _ (by simp)⟩) (by intro u hu; simp at hu; rcases hu with rfl | rfl <;> rfl) (by omega) (by unfold maxLen; omega) (by omega) (by simp; omega) ?_; intro p7 cap7 w7 hown7 hg7 hat7 hlt7; have hbx7 := (HST4.out.box.alloc (.cells #[.bool true, .string tx] 185)).grown hg7 (fun e => by have := HOB.out _ e.symm; omega); have q1 := hbx7.cell 1 rfl; have fq1 := hbx7.frozen 1; have HG7 := hid ((World.grownBy_alloc _ (.cells #[.bool true, .string tx] 185) _).trans hg7); have HOWN7 := hid hown7; clear hown7 hg7 hat7 hbx7)
     go_wp2
     go_roundg (gk - 1)
     case rel => exact ⟨_, cs ++ [⟨true, tx⟩], by rw [List.length_append, List.length_singleton, HCL.out]; go_num, by rw [List.length_append, List.length_singleton, HCL.out]; omega, hid (HST4.out.push (c := ⟨true, tx⟩) HOK.out (by rw [HCL.out]) HOWN7.out HG7.out (by omega) (by omega) (by omega))⟩
     case measure => omega
  ·obtain rfl : gk = 0 := by omega
   have hbz := HB2.out.lt
   have hb0 : BoxN wr w.heap.size 139 #[.string ⟨#[]⟩, .slice none 0 0] := (HST.out.keep w.heap.size (by have := HBS.out; omega) (by omega) (by omega)).trans HB2.out
   have c0 := hb0.cell 0 rfl
   have c1 := hb0.cell 1 rfl
   have f0 := hb0.frozen 0
   have f1 := hb0.frozen 1
   have e0 := HST.out.box.cell 0 rfl
   have e1 := HST.out.box.cell 1 rfl
   clear hb0
   go_wp2
   refine bodyPost_ret (by simp [results, Tryz.results150, go_sem, c0, c1]; rfl) rfl ?_
   have hbw : Below w.heap.size wr ((wr.setCell ⟨w.heap.size, 0, none⟩ (.string nm)).setCell ⟨w.heap.size, 1, none⟩ (.slice va L vc)) := by
    have := Below.refl w.heap.size wr
    repeat' (first | (with_reducible exact Below.refl _ _) | (with_reducible assumption) | (with_reducible refine below_drewN ?_) | (with_reducible refine Below.alloc ?_ ?_ _) | (with_reducible refine Below.drew ?_) | (with_reducible refine Below.setCell ?_ ?_ _) | (with_reducible refine Below.trans ?_ (Below.mono (by with_reducible assumption) ?_)) | go_size)
   have hcl : ∀ p : Addr, base ≤ p.block ∧ p.block < wr.heap.size → ((wr.setCell ⟨w.heap.size, 0, none⟩ (.string nm)).setCell ⟨w.heap.size, 1, none⟩ (.slice va L vc)).cell? p = wr.cell? p := fun p hp => by
    have := HBS.out
    rw [World.cell?_setCell_other _ _ _ _ (by intro e; subst e; simp at hp; omega), World.cell?_setCell_other _ _ _ _ (by intro e; subst e; simp at hp; omega)]
   refine ⟨⟨nm, cs⟩, _, rfl, ⟨HNM.out, (by have := HCL.out; show cs.length = n; omega), HST.out.ok⟩, ?_, HST.out.dice.below hbw hgl, HST.out.roll.trans (Roll.of_below hbw g)⟩
   have hrd := rdCl_of_own HST.out.own
   first | rw [HCL.out] at hrd | skip
   exact (hrd.keep hcl).more fun b hb => ⟨by have := HBS.out; omega, by simpa using hb.2⟩
end Go.Proofs.YtikiimlmoalbcaaGreatDoor
