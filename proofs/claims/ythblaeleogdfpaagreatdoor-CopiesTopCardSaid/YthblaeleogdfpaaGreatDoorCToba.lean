/- Contract of the kit's dice: Table. -/
import Derived.Deep.RegionLawGrows
import Derived.Test.YthblaeleogdfpaaGreatDoorCToaz
set_option linter.unusedVariables false
set_option linter.unusedSimpArgs false
namespace Go.Proofs.YthblaeleogdfpaaGreatDoor
open Go.RowKit
def KTabOk (t : Ta) : Prop := TextOk 6 t.name ∧ t.cols.length ≤ 3 ∧ ∃ n, n ≤ 6 ∧ ∀ x ∈ t.cols, KColOk n x
def KTab (w : World) (g : Nat) (id : Int) (e : Ending) (w' : World) : Prop :=
  ∃ (t : Ta) (v : Value), e = .returned (.agg #[.int .i64 t.id, .string t.name, v]) ∧ t.id = id ∧ KTabOk t ∧ CoSt w' w.heap.size 30 v t.cols ∧ KDice w' g ∧ Roll w.heap.size g w w'
theorem CoSt.lowerK {w : World} {base b0 : Nat} {e : TypeId} {v : Value} {xs : List Co} (h : CoSt w base e v xs) (hb : b0 ≤ base) : CoSt w b0 e v xs := by
 obtain ⟨cv, h⟩ := h
 refine ⟨cv, ⟨h.row.1, ?_⟩, Nat.le_trans hb h.low, fun i hi => (h.kids i hi).more fun b hb' => ⟨Nat.le_trans hb hb'.1, hb'.2⟩⟩
 rcases h.row.2 with h1 | ⟨g, cap, cur, rfl, h2, rest⟩
 ·exact .inl h1
 ·exact .inr ⟨g, cap, cur, rfl, Nat.le_trans hb h2, rest⟩
theorem KTabOk.valid {t : Ta} (h : KTabOk t) (h0 : 0 ≤ t.id) (h1 : t.id ≤ 1073741824) : TabV t := by
 obtain ⟨a, b, n, hn, c⟩ := h
 exact ⟨h0, h1, a.more (by omega), by omega, n, by omega, fun x hx => ⟨(kcolNames_ok _ (c x hx).1).more (by omega), (c x hx).2.1, (c x hx).2.2⟩⟩
def ktabNames : List ByteArray := [⟨#[116]⟩, ⟨#[111, 114, 100, 101, 114, 115]⟩, ⟨#[]⟩]
theorem ktabNames_ok : ∀ x ∈ ktabNames, TextOk 6 x := by unfold TextOk; decide +kernel
structure KTabSt (w0 ws w : World) (g cb base n : Nat) (id : Int) (nm : ByteArray) (v : Value) (xs : List Co) : Prop where
  box : BoxN w cb 24 #[.int .i64 id, .string nm, v]
  own : CoSt w base 30 v xs
  ok : ∀ x ∈ xs, KColOk n x
  dice : KDice w g
  roll : Roll w0.heap.size g w0 w
  low : base ≤ w.heap.size
  keep : ∀ k, k < base → k ≠ g → k ≠ cb → w.heap[k]? = ws.heap[k]?
section
variable {w0 ws w w' : World} {g cb base n : Nat} {id : Int} {nm : ByteArray} {v : Value} {xs : List Co}
theorem KTabSt.rolled (h : KTabSt w0 ws w g cb base n id nm v xs) (hr : Roll w.heap.size g w w') (hd : KDice w' g) (hg : g < base) (hne : cb ≠ g) : KTabSt w0 ws w' g cb base n id nm v xs :=
 ⟨h.box.roll hr h.box.lt hne, h.own.roll hr (Nat.le_refl _) hg, h.ok, hd, h.roll.trans (hr.mono h.roll.size), Nat.le_trans h.low hr.size, fun k h1 h2 h3 => (hr.block k (Nat.lt_of_lt_of_le h1 h.low) h2).trans (h.keep k h1 h2 h3)⟩
theorem KTabSt.alloc (h : KTabSt w0 ws w g cb base n id nm v xs) (hg : g < base) (hne : cb ≠ g) (O : Obj) : KTabSt w0 ws (w.alloc O) g cb base n id nm v xs :=
 h.rolled ((Roll.refl _ _ _).alloc (Nat.le_refl _) O) (h.dice.alloc O) hg hne
theorem KTabSt.drew (h : KTabSt w0 ws w g cb base n id nm v xs) : KTabSt w0 ws w.drew g cb base n id nm v xs :=
 ⟨h.box, h.own.drewN 1, h.ok, h.dice, h.roll.drewN 1, h.low, h.keep⟩
theorem KTabSt.push (h : KTabSt w0 ws w g cb base n id nm v xs) {x : Co} (hx : KColOk n x) {L : List Value} {u : Value} {p m cap : Nat} (hm : m = xs.length + 1) (hL : w.ownsRow base 30 2 v xs.length L)
  (hown : w'.ownsRow base 30 2 (.slice (some ⟨p, 0, none⟩) m cap) m (L ++ [.string x.name, u])) (hgr : w.grownBy w' v.ownBlock) (hat : v.ownBlock = some p ∨ p = w.heap.size)
  (hnew : RdCl w (Own w base v) u x.cells) (hcb : cb < base) (hc0 : w0.heap.size ≤ cb) (hg : g < cb) :
  KTabSt w0 ws (w'.setCell ⟨cb, 2, none⟩ (.slice (some ⟨p, 0, none⟩) m cap)) g cb base n id nm (.slice (some ⟨p, 0, none⟩) m cap) (xs ++ [x]) := by
 have hv : ∀ k, v.ownBlock = some k → base ≤ k := fun k hk => (hL.lt k hk).1
 have hlo := h.low
 have hx' : ∀ k, k < base → w'.heap[k]? = w.heap[k]? := fun k hk => hgr.block k (by omega) (fun e => by have := hv k e.symm; omega)
 refine ⟨(show BoxN w' cb _ _ from (hx' cb hcb).trans h.box).set 2 _, (h.own.push hL hm hown hgr hat hnew).setCell hcb _, ?_, (h.dice.keep fun k hk => hx' k (by omega)).store hg _, ?_, by have := hgr.size; simp; omega, fun k h1 h2 h3 => (Below.heap_setCell _ _ _ _ h3).trans ((hx' k h1).trans (h.keep k h1 h2 h3))⟩
 ·intro y hy
  rcases List.mem_append.1 hy with h1 | h1
  ·exact h.ok y h1
  ·rw [List.mem_singleton.1 h1]; exact hx
 ·exact h.roll.trans ⟨hgr.os, hgr.tape, hgr.output, by have := hgr.size; simpa using this, fun k hk hkg => (Below.heap_setCell _ _ _ _ (by show k ≠ cb; omega)).trans (hx' k (by omega))⟩
end
set_option maxRecDepth 100000 in
set_option maxHeartbeats 2000000 in
theorem kit_Table (g : Nat) (id : Int) (w : World) (hd : KDice w g) :
  Calls Tryz.prog 10 #[.pointer (some ⟨g, 0, none⟩), .int .i64 id] w (KTab w g id) := by
 have hgl := hd.lt
 have HD := hid hd
 obtain ⟨i0, hi, hz0, hz1, hz2⟩ := info_parts info_col
 clear hd
 go_enter Tryz.func10, Tryz.ntmps10
 generalize hLA : Code.loop _ = LA
 go_wp2_with fail
 have hd0 := (HD.out.alloc (.cells #[.int .i64 0, .string ⟨#[]⟩, .slice none 0 0] 24)).alloc (.cells #[.string ⟨#[116]⟩, .string ⟨#[111, 114, 100, 101, 114, 115]⟩, .string ⟨#[]⟩] 9)
 have hr0 := ((Roll.refl w.heap.size g w).alloc (Nat.le_refl _) (.cells #[.int .i64 0, .string ⟨#[]⟩, .slice none 0 0] 24)).alloc (by simp) (.cells #[.string ⟨#[116]⟩, .string ⟨#[111, 114, 100, 101, 114, 115]⟩, .string ⟨#[]⟩] 9)
 have hb0 := (BoxN.new w #[.int .i64 0, .string ⟨#[]⟩, .slice none 0 0] 24).alloc (.cells #[.string ⟨#[116]⟩, .string ⟨#[111, 114, 100, 101, 114, 115]⟩, .string ⟨#[]⟩] 9)
 have hn0 := BoxN.new (w.alloc (.cells #[.int .i64 0, .string ⟨#[]⟩, .slice none 0 0] 24)) #[.string ⟨#[116]⟩, .string ⟨#[111, 114, 100, 101, 114, 115]⟩, .string ⟨#[]⟩] 9
 have hz0' : ((w.alloc (.cells #[.int .i64 0, .string ⟨#[]⟩, .slice none 0 0] 24)).alloc (.cells #[.string ⟨#[116]⟩, .string ⟨#[111, 114, 100, 101, 114, 115]⟩, .string ⟨#[]⟩] 9)).heap.size = w.heap.size + 2 := by simp
 simp only [World.size_alloc] at hn0
 have hn1 : BoxN ((w.alloc (.cells #[.int .i64 0, .string ⟨#[]⟩, .slice none 0 0] 24)).alloc (.cells #[.string ⟨#[116]⟩, .string ⟨#[111, 114, 100, 101, 114, 115]⟩, .string ⟨#[]⟩] 9)) (w.heap.size + 1) 9 (ktabNames.map Value.string).toArray := hn0
 with_reducible refine (kit_Word g (w.heap.size + 1) 3 ktabNames _ hd0 hn1 (by omega) rfl (by omega) (by omega)).mono ?_
 clear hd0 hn0 hn1
 generalize ((w.alloc (.cells #[.int .i64 0, .string ⟨#[]⟩, .slice none 0 0] 24)).alloc (.cells #[.string ⟨#[116]⟩, .string ⟨#[111, 114, 100, 101, 114, 115]⟩, .string ⟨#[]⟩] 9)) = W0 at *
 rintro e w1 ⟨nm, rfl, hnm, hd1, hr1, hs1⟩
 have HB1 := hid (hb0.roll hr1 (by omega) (by omega))
 have HR1 := hid (hr0.trans (hr1.mono (by omega)))
 have HD1 := hid hd1
 have HNM := hid (ktabNames_ok _ hnm)
 clear hb0 hr0 hr1 hd1 hnm
 go_wp2_with fail
 have hd2 := HD1.out.alloc (.cells #[.int .i64 id, .string nm, .slice none 0 0] 24)
 have hr2 := HR1.out.alloc (by omega) (.cells #[.int .i64 id, .string nm, .slice none 0 0] 24)
 have hb2 := HB1.out.alloc (.cells #[.int .i64 id, .string nm, .slice none 0 0] 24)
 have hc2 := BoxN.new w1 #[.int .i64 id, .string nm, .slice none 0 0] 24
 have hz2' : (w1.alloc (.cells #[.int .i64 id, .string nm, .slice none 0 0] 24)).heap.size = w1.heap.size + 1 := by simp
 with_reducible refine (kit_Next g _ _ hd2 (by omega) (by omega)).mono ?_
 clear hd2
 generalize (w1.alloc (.cells #[.int .i64 id, .string nm, .slice none 0 0] 24)) = W1 at *
 rintro e w2 ⟨n, rfl, hn, hd2, hr2', hs2⟩
 have hcb : w1.heap.size = w.heap.size + 2 := by omega
 have HC2 := hid (hc2.roll hr2' (by omega) (by omega))
 rw [hcb] at HC2
 have HB2 := hid (hb2.roll hr2' (by omega) (by omega))
 have HR2 := hid (hr2.trans (hr2'.mono (by omega)))
 have HD2 := hid hd2
 clear hb2 hc2 hr2 hr2' hd2 hcb
 go_wp2_with fail
 with_reducible refine (kit_Next g _ _ HD2.out (by omega) (by omega)).mono ?_
 rintro e w3 ⟨k, rfl, hk, hd3, hr3, hs3⟩
 have hc2z := HC2.out.lt
 have HC3 := hid (HC2.out.roll hr3 (by omega) (by omega))
 have HB3 := hid (HB2.out.roll hr3 (by omega) (by omega))
 have HR3 := hid (HR2.out.trans (hr3.mono HR2.out.size))
 have HD3 := hid hd3
 have hn6 : n ≤ 6 := by omega
 have hk2 : k ≤ 2 := by omega
 clear hr3 hd3 HC2 HB2 HR2 HD2 hn hk
 go_wp2_with fail
 subst hLA
 go_loopg [7] (k + 1) (fun N i wr => ∃ (v : Value) (xs : List Co), i = .int .i64 (N : Int) ∧ xs.length + N = k + 1 ∧ Hid (KTabSt w w3 wr g (w.heap.size + 2) w3.heap.size n id nm v xs))
 case atStart => exact ⟨.slice none 0 0, [], by go_num, by simp, hid ⟨HC3.out, CoSt.start (Nat.le_refl _), by simp, HD3.out, HR3.out, Nat.le_refl _, fun _ _ _ _ => rfl⟩⟩
 case round =>
  obtain ⟨v, xs, rfl, hl, HST⟩ := hrel
  obtain ⟨L0, hL0⟩ := HST.out.own.owns
  obtain ⟨va, vc, rfl⟩ := own_slice hL0
  have HL0 := hid hL0
  have hcz := HC3.out.lt
  clear hL0
  generalize hbs : w3.heap.size = base at *
  have HBS := hid hbs
  clear hbs
  generalize hcl : xs.length = L at *
  have HCL := hid hcl
  clear hcl
  by_cases hp : 0 < gk
  ·have s0 := HST.out.box.cell 2 rfl
   have hrz := HST.out.roll.size
   have hlo := HST.out.low
   go_wp2_with fail
   go_region_law (first
    | (go_simp; go_at_call 45; go_must (((with_reducible refine (kit_Column g n _ HST.out.dice.drew (by omega)).mono ?_); rintro e w5 ⟨⟨xn, xc⟩, u, rfl, hok5, hrd5, hd5, hr5⟩; have HST5 := hid (HST.out.drew.rolled hr5 hd5 (by omega) (by omega)); have HL5 := hid (own_roll (own_drewN HL0.out 1) hr5 (Nat.le_refl _) (by omega)); have HOB := hid (HL0.out.lt); have HOK5 := hid hok5; have HRD5 := hid hrd5; obtain ⟨ua, uc, rfl, -⟩ := hrd5; have s5 := HST5.out.box.cell 2 rfl; have s6 := (HST5.out.box.alloc (.cells #[.string xn, .slice ua xc.length uc] 30)).cell 2 rfl; have f5 := HST5.out.box.frozen 2; have hlo5 := HST5.out.low; have hrz5 := hr5.size; clear hok5 hd5 hr5)))
    | ((refine step_append_form _ rfl (.tmp 23) (.tmp 27) 22 22 rfl base 30 30 i0 (.agg #[.string ⟨#[]⟩, .slice none 0 0]) 2 40 Tryz.underlying22 Tryz.underlying22 hi hz0 hz1 hz2 rfl (by decide) (.slice va L vc) L L0 rfl (HL5.out.alloc _) (some ⟨_, 0, none⟩) 1 1 [.string xn, .slice ua xc.length uc] rfl rfl (fun _ => ⟨_, rfl, cell_two_at _ _ _ (by simp)⟩) (by intro u hu; simp at hu; rcases hu with rfl | rfl <;> rfl) (by omega) (by unfold maxLen; omega) (by omega) (by simp; omega) ?_); intro p7 cap7 w7 hown7 hg7 hat7 hlt7; have hbx7 := (HST5.out.box.alloc (.cells #[.string xn, .slice ua xc.length uc] 30)).grown hg7 (fun e => by have := HOB.out _ e.symm; omega); have q1 := hbx7.cell 2 rfl; have fq1 := hbx7.frozen 2; have HG7 := hid hg7; have HOWN7 := hid hown7; have HAT7 := hid hat7; clear hown7 hg7 hat7 hbx7))
   all_goals
    have HNEW : Hid (RdCl (w5.alloc (.cells #[.string xn, .slice ua xc.length uc] 30)) (Own (w5.alloc (.cells #[.string xn, .slice ua xc.length uc] 30)) base (.slice va L vc)) (.slice ua xc.length uc) xc) := hid ((HRD5.out.keep (fun p hp => World.cell?_alloc_lt _ _ _ hp.2)).more (fun b hb => ⟨by have := hb.1; simp at this; omega, by have := hb.2; simp; omega, fun e => by have := (HOB.out _ e).2; have := hb.1; simp at this; omega⟩))
    have HL6 : Hid ((w5.alloc (.cells #[.string xn, .slice ua xc.length uc] 30)).ownsRow base 30 2 (.slice va L vc) xs.length L0) := hid (by rw [HCL.out]; exact HL5.out.alloc _)
    have HST6 := hid (HST5.out.alloc (by omega) (by omega) (.cells #[.string xn, .slice ua xc.length uc] 30))
    have HST7 := hid (HST6.out.push (x := ⟨xn, xc⟩) (m := L + 1) HOK5.out (by rw [HCL.out]) HL6.out HOWN7.out HG7.out HAT7.out HNEW.out (by omega) (by omega) (by omega))
    clear s0 s5 s6 f5 q1 fq1
    go_wp2
    go_roundg (gk - 1)
    case rel => exact ⟨_, xs ++ [⟨xn, xc⟩], by go_num, by rw [List.length_append, List.length_singleton, HCL.out]; omega, HST7⟩
    case measure => omega
  ·obtain rfl : gk = 0 := by omega
   go_wp2_with fail
   with_reducible refine (kit_Next g _ _ HST.out.dice (by omega) (by omega)).mono ?_
   rintro e w4 ⟨m, rfl, hm, hd4, hr4, hs4⟩
   have HST4 := hid (HST.out.rolled (hr4.mono (Nat.le_refl _)) hd4 (by omega) (by omega))
   have hbz := HB3.out.lt
   have hb0 : BoxN w4 w.heap.size 24 #[.int .i64 0, .string ⟨#[]⟩, .slice none 0 0] := (HST4.out.keep w.heap.size (by have := HBS.out; omega) (by omega) (by omega)).trans HB3.out
   have hlz := HST4.out.low
   by_cases h1 : m = 1
   ·subst h1
    have hx4 := HST4.out.box.set 2 (.slice none 0 0)
    have fx := HST4.out.box.frozen 2
    have gx := HST4.out.box.cell 2 rfl
    have c0 := hb0.cell 0 rfl
    have c1 := hb0.cell 1 rfl
    have c2 := hb0.cell 2 rfl
    have f0 := hb0.frozen 0
    have f1 := hb0.frozen 1
    have f2 := hb0.frozen 2
    have e0 := hx4.cell 0 rfl
    have e1 := hx4.cell 1 rfl
    have e2 := hx4.cell 2 rfl
    have g0 := HST4.out.box.cell 0 rfl
    have g1 := HST4.out.box.cell 1 rfl
    clear hx4
    go_wp2
    refine bodyPost_ret (by simp [results, Tryz.results10, go_sem, c0, c1, c2]; rfl) rfl ?_
    have hbw : Below w.heap.size w4 ((((w4.setCell ⟨w.heap.size + 2, 2, none⟩ (.slice none 0 0)).setCell ⟨w.heap.size, 0, none⟩ (.int .i64 id)).setCell ⟨w.heap.size, 1, none⟩ (.string nm)).setCell ⟨w.heap.size, 2, none⟩ (.slice none 0 0)) := by
     have := Below.refl w.heap.size w4
     repeat' (first | (with_reducible exact Below.refl _ _) | (with_reducible assumption) | (with_reducible refine below_drewN ?_) | (with_reducible refine Below.alloc ?_ ?_ _) | (with_reducible refine Below.drew ?_) | (with_reducible refine Below.setCell ?_ ?_ _) | (with_reducible refine Below.trans ?_ (Below.mono (by with_reducible assumption) ?_)) | go_size)
    exact ⟨⟨id, nm, []⟩, _, rfl, rfl, ⟨HNM.out, by simp, n, hn6, by simp⟩, CoSt.start (by have := HST4.out.roll.size; simp; omega), HST4.out.dice.below hbw hgl, HST4.out.roll.trans (Roll.of_below hbw g)⟩
   ·have hm1 : ((m : Int) == 1) = false := by simp; omega
    have hm2 : ¬ (m : Int) = 1 := by omega
    have c0 := hb0.cell 0 rfl
    have c1 := hb0.cell 1 rfl
    have c2 := hb0.cell 2 rfl
    have f0 := hb0.frozen 0
    have f1 := hb0.frozen 1
    have f2 := hb0.frozen 2
    have e0 := HST4.out.box.cell 0 rfl
    have e1 := HST4.out.box.cell 1 rfl
    have e2 := HST4.out.box.cell 2 rfl
    clear hb0
    go_wp2
    refine bodyPost_ret (by simp [results, Tryz.results10, go_sem, c0, c1, c2]; rfl) rfl ?_
    have hbw : Below w.heap.size w4 (((w4.setCell ⟨w.heap.size, 0, none⟩ (.int .i64 id)).setCell ⟨w.heap.size, 1, none⟩ (.string nm)).setCell ⟨w.heap.size, 2, none⟩ (.slice va L vc)) := by
     have := Below.refl w.heap.size w4
     repeat' (first | (with_reducible exact Below.refl _ _) | (with_reducible assumption) | (with_reducible refine below_drewN ?_) | (with_reducible refine Below.alloc ?_ ?_ _) | (with_reducible refine Below.drew ?_) | (with_reducible refine Below.setCell ?_ ?_ _) | (with_reducible refine Below.trans ?_ (Below.mono (by with_reducible assumption) ?_)) | go_size)
    refine ⟨⟨id, nm, xs⟩, _, rfl, rfl, ⟨HNM.out, (by have := HCL.out; show xs.length ≤ 3; omega), n, hn6, HST4.out.ok⟩, ?_, HST4.out.dice.below hbw hgl, HST4.out.roll.trans (Roll.of_below hbw g)⟩
    have hbs := HBS.out
    exact (((HST4.out.own.setCell (p := ⟨w.heap.size, 0, none⟩) (by show w.heap.size < base; omega) _).setCell (p := ⟨w.heap.size, 1, none⟩) (by show w.heap.size < base; omega) _).setCell (p := ⟨w.heap.size, 2, none⟩) (by show w.heap.size < base; omega) _).lowerK (by omega)
end Go.Proofs.YthblaeleogdfpaaGreatDoor
