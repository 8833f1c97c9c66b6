/- Contract of the dice's Table. Contract of the dice's List. DERIVED: THE SHELF's CONTRACTS AT THIS DUMP, IN PLAIN WORDS (tools/lay-plain.mjs out of 'YtikiimlmoalbcaaGreatDoorShVL.lean', which tools/lay-shelf.mjs wrote): THE SAME DECLARATIONS UNDER THE SAME NAMES: 'import', 'namespace', 'open', 'def', 'theorem' AND NOTHING ELSE: no command of the shelf's: FOR A HAND-IN. Each laying: the table of numbers ('.._ren') and one theorem, a field a fact of the dump's own or the kernel's comparison; each contract: ONE APPLICATION. Contracts of text.Valid and the reference's Valid; the tables of UTF-8. Contracts of the reference's checks of tables, at valid ones. -/
import Derived.Test.YtikiimlmoalbcaaGreatDoorOOtad
import Derived.Shelf.Unicode.ValidAny
import Derived.Test.YtikiimlmoalbcaaGreatDoorProg
import Derived.Test.YtikiimlmoalbcaaGreatDoorOOtaa
import Derived.Test.YtikiimlmoalbcaaGreatDoorOOtac
set_option linter.unusedVariables false
set_option linter.unusedSimpArgs false
namespace Go.Proofs.YtikiimlmoalbcaaGreatDoor
open Go.RowKit
def TabOk (c r : Nat) (t : Ta) : Prop := TextOk 6 t.name ∧ t.cols.length ≤ c ∧ ∃ n, n ≤ r ∧ ∀ x ∈ t.cols, ColOk n x
def TabR (w : World) (g : Nat) (id : Int) (c r : Nat) (e : Ending) (w' : World) : Prop :=
  ∃ (t : Ta) (v : Value), e = .returned (.agg #[.int .i64 t.id, .string t.name, v]) ∧ t.id = id ∧ TabOk c r t ∧ RdCo w' (News w w') v t.cols ∧ DiceAt 89 w' g ∧ Roll w.heap.size g w w'
def tabNames : List ByteArray := [⟨#[116]⟩, ⟨#[112, 101, 111, 112, 108, 101]⟩, ⟨#[112, 108, 97, 99, 101, 115]⟩]
theorem tabNames_ok : ∀ x ∈ tabNames, TextOk 6 x := by unfold TextOk; decide +kernel
theorem tabName_at (i : Nat) (h : i < 3) : ∃ z : ByteArray, TextOk 6 z ∧ (#[.string ⟨#[116]⟩, .string ⟨#[112, 101, 111, 112, 108, 101]⟩, .string ⟨#[112, 108, 97, 99, 101, 115]⟩] : Array Value)[i]? = some (.string z) := by
  rcases (show i = 0 ∨ i = 1 ∨ i = 2 by omega) with rfl | rfl | rfl
  · exact ⟨_, tabNames_ok _ (.head _), rfl⟩
  · exact ⟨_, tabNames_ok _ (.tail _ (.head _)), rfl⟩
  · exact ⟨_, tabNames_ok _ (.tail _ (.tail _ (.head _))), rfl⟩
structure TabSt (w0 ws w : World) (g cb base n : Nat) (id : Int) (nm : ByteArray) (v : Value) (xs : List Co) : Prop where
  box : BoxN w cb 145 #[.int .i64 id, .string nm, v]
  own : CoSt w base 139 v xs
  ok : ∀ x ∈ xs, ColOk n x
  dice : DiceAt 89 w g
  roll : Roll w0.heap.size g w0 w
  low : base ≤ w.heap.size
  keep : ∀ k, k < base → k ≠ g → k ≠ cb → w.heap[k]? = ws.heap[k]?
section
variable {w0 ws w w' : World} {g cb base n : Nat} {id : Int} {nm : ByteArray} {v : Value} {xs : List Co}
theorem TabSt.rolled (h : TabSt w0 ws w g cb base n id nm v xs) (hr : Roll w.heap.size g w w') (hd : DiceAt 89 w' g) (hg : g < base) (hne : cb ≠ g) : TabSt w0 ws w' g cb base n id nm v xs :=
  ⟨h.box.roll hr h.box.lt hne, h.own.roll hr (Nat.le_refl _) hg, h.ok, hd, h.roll.trans (hr.mono h.roll.size), Nat.le_trans h.low hr.size, fun k h1 h2 h3 => (hr.block k (Nat.lt_of_lt_of_le h1 h.low) h2).trans (h.keep k h1 h2 h3)⟩
theorem TabSt.alloc (h : TabSt w0 ws w g cb base n id nm v xs) (hg : g < base) (hne : cb ≠ g) (O : Obj) : TabSt w0 ws (w.alloc O) g cb base n id nm v xs :=
  h.rolled ((Roll.refl _ _ _).alloc (Nat.le_refl _) O) (h.dice.alloc O) hg hne
theorem TabSt.drew (h : TabSt w0 ws w g cb base n id nm v xs) : TabSt w0 ws w.drew g cb base n id nm v xs :=
  ⟨h.box, h.own.drewN 1, h.ok, h.dice, h.roll.drewN 1, h.low, h.keep⟩
theorem TabSt.push (h : TabSt w0 ws w g cb base n id nm v xs) {x : Co} (hx : ColOk n x) {L : List Value} {u : Value} {p m cap : Nat} (hm : m = xs.length + 1) (hL : w.ownsRow base 139 2 v xs.length L)
    (hown : w'.ownsRow base 139 2 (.slice (some ⟨p, 0, none⟩) m cap) m (L ++ [.string x.name, u])) (hgr : w.grownBy w' v.ownBlock) (hat : v.ownBlock = some p ∨ p = w.heap.size)
    (hnew : RdCl w (Own w base v) u x.cells) (hcb : cb < base) (hc0 : w0.heap.size ≤ cb) (hg : g < cb) :
    TabSt w0 ws (w'.setCell ⟨cb, 2, none⟩ (.slice (some ⟨p, 0, none⟩) m cap)) g cb base n id nm (.slice (some ⟨p, 0, none⟩) m cap) (xs ++ [x]) := by
  have hv : ∀ k, v.ownBlock = some k → base ≤ k := fun k hk => (hL.lt k hk).1
  have hlo := h.low
  have hx' : ∀ k, k < base → w'.heap[k]? = w.heap[k]? := fun k hk => hgr.block k (by omega) (fun e => by have := hv k e.symm; omega)
  refine ⟨(show BoxN w' cb _ _ from (hx' cb hcb).trans h.box).set 2 _, (h.own.push hL hm hown hgr hat hnew).setCell hcb _, ?_, dice_store (h.dice.keep fun k hk => hx' k (by omega)) hg _, ?_, by have := hgr.size; simp; omega, fun k h1 h2 h3 => (Below.heap_setCell _ _ _ _ h3).trans ((hx' k h1).trans (h.keep k h1 h2 h3))⟩
  · intro y hy
    rcases List.mem_append.1 hy with h1 | h1
    · exact h.ok y h1
    · rw [List.mem_singleton.1 h1]; exact hx
  · exact h.roll.trans ⟨hgr.os, hgr.tape, hgr.output, by have := hgr.size; simpa using this, fun k hk hkg => (Below.heap_setCell _ _ _ _ (by show k ≠ cb; omega)).trans (hx' k (by omega))⟩
end
set_option maxRecDepth 100000 in
set_option maxHeartbeats 2000000 in
theorem dice_Table (g c r : Nat) (id : Int) (w : World) (hd : DiceAt 89 w g) (hc : c ≤ 4095) (hr : r ≤ 4095) :
  Calls Tryz.prog 101 #[.pointer (some ⟨g, 0, none⟩), .int .i64 id, .int .i64 (c : Int), .int .i64 (r : Int)] w (TabR w g id c r) := by
 have hgl := hd.lt
 have HD := hid hd
 obtain ⟨i0, hi, hz0, hz1, hz2⟩ := info_parts info_col
 clear hd
 go_enter Tryz.func101, Tryz.ntmps101
 generalize hLA : Code.loop _ = LA
 go_wp2_with fail
 have hd0 := (HD.out.alloc (.cells #[.int .i64 0, .string ⟨#[]⟩, .slice none 0 0] 145)).alloc (.cells #[.string ⟨#[116]⟩, .string ⟨#[112, 101, 111, 112, 108, 101]⟩, .string ⟨#[112, 108, 97, 99, 101, 115]⟩] 9)
 have hr0 := ((Roll.refl w.heap.size g w).alloc (Nat.le_refl _) (.cells #[.int .i64 0, .string ⟨#[]⟩, .slice none 0 0] 145)).alloc (by simp) (.cells #[.string ⟨#[116]⟩, .string ⟨#[112, 101, 111, 112, 108, 101]⟩, .string ⟨#[112, 108, 97, 99, 101, 115]⟩] 9)
 have hb0 := (BoxN.new w #[.int .i64 0, .string ⟨#[]⟩, .slice none 0 0] 145).alloc (.cells #[.string ⟨#[116]⟩, .string ⟨#[112, 101, 111, 112, 108, 101]⟩, .string ⟨#[112, 108, 97, 99, 101, 115]⟩] 9)
 have hn0 := BoxN.new (w.alloc (.cells #[.int .i64 0, .string ⟨#[]⟩, .slice none 0 0] 145)) #[.string ⟨#[116]⟩, .string ⟨#[112, 101, 111, 112, 108, 101]⟩, .string ⟨#[112, 108, 97, 99, 101, 115]⟩] 9
 have hz0' : ((w.alloc (.cells #[.int .i64 0, .string ⟨#[]⟩, .slice none 0 0] 145)).alloc (.cells #[.string ⟨#[116]⟩, .string ⟨#[112, 101, 111, 112, 108, 101]⟩, .string ⟨#[112, 108, 97, 99, 101, 115]⟩] 9)).heap.size = w.heap.size + 2 := by simp
 simp only [World.size_alloc] at hn0
 with_reducible refine (dice_Pick g _ _ hd0 (by omega) (by omega)).mono ?_
 clear hd0
 generalize ((w.alloc (.cells #[.int .i64 0, .string ⟨#[]⟩, .slice none 0 0] 145)).alloc (.cells #[.string ⟨#[116]⟩, .string ⟨#[112, 101, 111, 112, 108, 101]⟩, .string ⟨#[112, 108, 97, 99, 101, 115]⟩] 9)) = W0 at *
 rintro e w1 ⟨m, rfl, hm, hd1, hr1, hs1⟩
 obtain ⟨nm, hnm, hcm⟩ := tabName_at m (by omega)
 have c1 := (hn0.roll hr1 (by omega) (by omega)).cell m hcm
 have HB1 := hid (hb0.roll hr1 (by omega) (by omega))
 have HR1 := hid (hr0.trans (hr1.mono (by omega)))
 have HD1 := hid hd1
 have HNM := hid hnm
 clear hn0 hb0 hr0 hr1 hd1 hcm hnm
 go_wp2_with fail
 have hd2 := HD1.out.alloc (.cells #[.int .i64 id, .string nm, .slice none 0 0] 145)
 have hr2 := HR1.out.alloc (by omega) (.cells #[.int .i64 id, .string nm, .slice none 0 0] 145)
 have hb2 := HB1.out.alloc (.cells #[.int .i64 id, .string nm, .slice none 0 0] 145)
 have hc2 := BoxN.new w1 #[.int .i64 id, .string nm, .slice none 0 0] 145
 have hz2' : (w1.alloc (.cells #[.int .i64 id, .string nm, .slice none 0 0] 145)).heap.size = w1.heap.size + 1 := by simp
 with_reducible refine (dice_Pick g _ _ hd2 (by omega) (by omega)).mono ?_
 clear hd2 c1
 generalize (w1.alloc (.cells #[.int .i64 id, .string nm, .slice none 0 0] 145)) = W1 at *
 rintro e w2 ⟨n, rfl, hn, hd2, hr2', hs2⟩
 have hcb : w1.heap.size = w.heap.size + 2 := by omega
 have HC2 := hid (hc2.roll hr2' (by omega) (by omega))
 rw [hcb] at HC2
 have HB2 := hid (hb2.roll hr2' (by omega) (by omega))
 have HR2 := hid (hr2.trans (hr2'.mono (by omega)))
 have HD2 := hid hd2
 clear hb2 hc2 hr2 hr2' hd2 hcb
 go_wp2_with fail
 with_reducible refine (dice_Pick g _ _ HD2.out (by omega) (by omega)).mono ?_
 rintro e w3 ⟨k, rfl, hk, hd3, hr3, hs3⟩
 have hc2z := HC2.out.lt
 have HC3 := hid (HC2.out.roll hr3 (by omega) (by omega))
 have HB3 := hid (HB2.out.roll hr3 (by omega) (by omega))
 have HR3 := hid (HR2.out.trans (hr3.mono HR2.out.size))
 have HD3 := hid hd3
 clear hr3 hd3 HC2 HB2 HR2 HD2
 go_wp2_with fail
 subst hLA
 go_loopg [11] k (fun N i wr => ∃ (v : Value) (xs : List Co), i = .int .i64 (N : Int) ∧ xs.length + N = k ∧ Hid (TabSt w w3 wr g (w.heap.size + 2) w3.heap.size n id nm v xs))
 case atStart => exact ⟨.slice none 0 0, [], rfl, by simp, hid ⟨HC3.out, CoSt.start (Nat.le_refl _), by simp, HD3.out, HR3.out, Nat.le_refl _, fun _ _ _ _ => rfl⟩⟩
 case round =>
  obtain ⟨v, xs, rfl, hl, HST⟩ := hrel
  obtain ⟨L0, hL0⟩ := HST.out.own.owns
  obtain ⟨va, vc, rfl⟩ := own_slice hL0
  have HL0 := hid hL0
  have hcz := HC3.out.lt
  clear hL0
  generalize hbs : w3.heap.size = base at *
  have HBS := hid hbs
  clear hbs
  generalize hcl : xs.length = L at *
  have HCL := hid hcl
  clear hcl
  by_cases hp : 0 < gk
  ·have s0 := HST.out.box.cell 2 rfl
   have hrz := HST.out.roll.size
   have hlo := HST.out.low
   go_wp2_with fail
   go_region_law (first
    | (go_simp; go_at_call 150; go_must (((with_reducible refine (dice_Column g n _ (diceDrew HST.out.dice) (by omega)).mono ?_); rintro e w5 ⟨⟨xn, xc⟩, u, rfl, hok5, hrd5, hd5, hr5⟩; have HST5 := hid (HST.out.drew.rolled hr5 hd5 (by omega) (by omega)); have HL5 := hid (own_roll (own_drewN HL0.out 1) hr5 (Nat.le_refl _) (by omega)); have HOB := hid (HL0.out.lt); have HOK5 := hid hok5; have HRD5 := hid hrd5; obtain ⟨ua, uc, rfl, -⟩ := hrd5; have s5 := HST5.out.box.cell 2 rfl; have s6 := (HST5.out.box.alloc (.cells #[.string xn, .slice ua xc.length uc] 139)).cell 2 rfl; have f5 := HST5.out.box.frozen 2; have hlo5 := HST5.out.low; have hrz5 := hr5.size; clear hok5 hd5 hr5)))
    | ((refine step_append_form _ rfl (.tmp 32) (.tmp 36) 143 143 rfl base 139 139 i0 (.agg #[.string ⟨#[]⟩, .slice none 0 0]) 2 40 Tryz.underlying143 Tryz.underlying143 hi hz0 hz1 hz2 rfl (by decide) (.slice va L vc) L L0 rfl (HL5.out.alloc _) (some ⟨_, 0, none⟩) 1 1 [.string xn, .slice ua xc.length uc] rfl rfl (fun _ => ⟨_, rfl, cell_two_at _ _ _ (by simp)⟩) (by intro u hu; simp at hu; rcases hu with rfl | rfl <;> rfl) (by omega) (by unfold maxLen; omega) (by omega) (by simp; omega) ?_); intro p7 cap7 w7 hown7 hg7 hat7 hlt7; have hbx7 := (HST5.out.box.alloc (.cells #[.string xn, .slice ua xc.length uc] 139)).grown hg7 (fun e => by have := HOB.out _ e.symm; omega); have q1 := hbx7.cell 2 rfl; have fq1 := hbx7.frozen 2; have HG7 := hid hg7; have HOWN7 := hid hown7; have HAT7 := hid hat7; clear hown7 hg7 hat7 hbx7))
   all_goals
    have HNEW : Hid (RdCl (w5.alloc (.cells #[.string xn, .slice ua xc.length uc] 139)) (Own (w5.alloc (.cells #[.string xn, .slice ua xc.length uc] 139)) base (.slice va L vc)) (.slice ua xc.length uc) xc) := hid ((HRD5.out.keep (fun p hp => World.cell?_alloc_lt _ _ _ hp.2)).more (fun b hb => ⟨by have := hb.1; simp at this; omega, by have := hb.2; simp; omega, fun e => by have := (HOB.out _ e).2; have := hb.1; simp at this; omega⟩))
    have HL6 : Hid ((w5.alloc (.cells #[.string xn, .slice ua xc.length uc] 139)).ownsRow base 139 2 (.slice va L vc) xs.length L0) := hid (by rw [HCL.out]; exact HL5.out.alloc _)
    have HST6 := hid (HST5.out.alloc (by omega) (by omega) (.cells #[.string xn, .slice ua xc.length uc] 139))
    have HST7 := hid (HST6.out.push (x := ⟨xn, xc⟩) (m := L + 1) HOK5.out (by rw [HCL.out]) HL6.out HOWN7.out HG7.out HAT7.out HNEW.out (by omega) (by omega) (by omega))
    clear s0 s5 s6 f5 q1 fq1
    go_wp2
    go_roundg (gk - 1)
    case rel => exact ⟨_, xs ++ [⟨xn, xc⟩], by go_num, by rw [List.length_append, List.length_singleton, HCL.out]; omega, HST7⟩
    case measure => omega
  ·obtain rfl : gk = 0 := by omega
   have hbz := HB3.out.lt
   have hb0 : BoxN wr w.heap.size 145 #[.int .i64 0, .string ⟨#[]⟩, .slice none 0 0] := (HST.out.keep w.heap.size (by have := HBS.out; omega) (by omega) (by omega)).trans HB3.out
   have c0 := hb0.cell 0 rfl
   have c1 := hb0.cell 1 rfl
   have c2 := hb0.cell 2 rfl
   have f0 := hb0.frozen 0
   have f1 := hb0.frozen 1
   have f2 := hb0.frozen 2
   have e0 := HST.out.box.cell 0 rfl
   have e1 := HST.out.box.cell 1 rfl
   have e2 := HST.out.box.cell 2 rfl
   clear hb0
   go_wp2
   refine bodyPost_ret (by simp [results, Tryz.results101, go_sem, c0, c1, c2]; rfl) rfl ?_
   have hbw : Below w.heap.size wr (((wr.setCell ⟨w.heap.size, 0, none⟩ (.int .i64 id)).setCell ⟨w.heap.size, 1, none⟩ (.string nm)).setCell ⟨w.heap.size, 2, none⟩ (.slice va L vc)) := by
    have := Below.refl w.heap.size wr
    repeat' (first | (with_reducible exact Below.refl _ _) | (with_reducible assumption) | (with_reducible refine below_drewN ?_) | (with_reducible refine Below.alloc ?_ ?_ _) | (with_reducible refine Below.drew ?_) | (with_reducible refine Below.setCell ?_ ?_ _) | (with_reducible refine Below.trans ?_ (Below.mono (by with_reducible assumption) ?_)) | go_size)
   have hcl : ∀ p : Addr, base ≤ p.block ∧ p.block < wr.heap.size → (((wr.setCell ⟨w.heap.size, 0, none⟩ (.int .i64 id)).setCell ⟨w.heap.size, 1, none⟩ (.string nm)).setCell ⟨w.heap.size, 2, none⟩ (.slice va L vc)).cell? p = wr.cell? p := fun p hp => by
    have := HBS.out
    rw [World.cell?_setCell_other _ _ _ _ (by intro e; subst e; simp at hp; omega), World.cell?_setCell_other _ _ _ _ (by intro e; subst e; simp at hp; omega), World.cell?_setCell_other _ _ _ _ (by intro e; subst e; simp at hp; omega)]
   refine ⟨⟨id, nm, xs⟩, _, rfl, rfl, ⟨HNM.out, (by have := HCL.out; show xs.length ≤ c; omega), n, by omega, HST.out.ok⟩, ?_, HST.out.dice.below hbw hgl, HST.out.roll.trans (Roll.of_below hbw g)⟩
   exact (HST.out.own.read.keep hcl).more fun b hb => ⟨by have := HBS.out; omega, by simpa using hb.2⟩
end Go.Proofs.YtikiimlmoalbcaaGreatDoor
namespace Go.Proofs.YtikiimlmoalbcaaGreatDoor
open Go.RowKit
def ListOk (T c r : Nat) (ts : List Ta) : Prop := ts.length ≤ T ∧ (∀ t ∈ ts, TabOk c r t ∧ 0 ≤ t.id ∧ t.id ≤ 2 + 3 * (T : Int)) ∧ ts.Pairwise (fun a b => a.id < b.id)
def ListR (w : World) (g T c r : Nat) (e : Ending) (w' : World) : Prop :=
  ∃ (ts : List Ta) (a : Option Addr) (k : Nat), e = .returned (.slice a ts.length k) ∧ RdTa w' (News w w') (.slice a ts.length k) ts ∧ ListOk T c r ts ∧ DiceAt 89 w' g ∧ Roll w.heap.size g w w'
structure LisSt (w0 w : World) (g c r z : Nat) (v : Value) (ts : List Ta) : Prop where
  own : TaSt w w0.heap.size 145 v ts
  ok : ∀ t ∈ ts, TabOk c r t ∧ 0 ≤ t.id ∧ t.id < (z : Int)
  asc : ts.Pairwise (fun a b => a.id < b.id)
  dice : DiceAt 89 w g
  roll : Roll w0.heap.size g w0 w
section
variable {w0 w w' : World} {g c r z : Nat} {v : Value} {ts : List Ta}
theorem LisSt.rolled (h : LisSt w0 w g c r z v ts) (hr : Roll w.heap.size g w w') (hd : DiceAt 89 w' g) (hg : g < w0.heap.size) : LisSt w0 w' g c r z v ts :=
  ⟨h.own.roll hr (Nat.le_refl _) hg, h.ok, h.asc, hd, h.roll.trans (hr.mono h.roll.size)⟩
theorem LisSt.alloc (h : LisSt w0 w g c r z v ts) (hg : g < w0.heap.size) (O : Obj) : LisSt w0 (w.alloc O) g c r z v ts :=
  h.rolled ((Roll.refl _ _ _).alloc (Nat.le_refl _) O) (h.dice.alloc O) hg
theorem LisSt.more (h : LisSt w0 w g c r z v ts) {z' : Nat} (hz : z ≤ z') : LisSt w0 w g c r z' v ts :=
  ⟨h.own, fun t ht => ⟨(h.ok t ht).1, (h.ok t ht).2.1, by have := (h.ok t ht).2.2; omega⟩, h.asc, h.dice, h.roll⟩
theorem LisSt.push (h : LisSt w0 w g c r z v ts) {x : Ta} (hx : TabOk c r x) (hxi : x.id = (z : Int)) {L : List Value} {u : Value} {p m cap : Nat} (hm : m = ts.length + 1) (hL : w.ownsRow w0.heap.size 145 3 v ts.length L)
    (hown : w'.ownsRow w0.heap.size 145 3 (.slice (some ⟨p, 0, none⟩) m cap) m (L ++ [.int .i64 x.id, .string x.name, u])) (hgr : w.grownBy w' v.ownBlock) (hat : v.ownBlock = some p ∨ p = w.heap.size)
    (hnew : RdCo w (Own w w0.heap.size v) u x.cols) (hg : g < w0.heap.size) : LisSt w0 w' g c r (z + 1) (.slice (some ⟨p, 0, none⟩) m cap) (ts ++ [x]) := by
  have hv : ∀ k, v.ownBlock = some k → w0.heap.size ≤ k := fun k hk => (hL.lt k hk).1
  have hrz := h.roll.size
  have hx' : ∀ k, k < w0.heap.size → w'.heap[k]? = w.heap[k]? := fun k hk => hgr.block k (by omega) (fun e => by have := hv k e.symm; omega)
  refine ⟨h.own.push hL hm hown hgr hat hnew, ?_, ?_, h.dice.keep fun k hk => hx' k (by omega), h.roll.trans ⟨hgr.os, hgr.tape, hgr.output, hgr.size, fun k hk _ => hx' k hk⟩⟩
  · intro y hy
    rcases List.mem_append.1 hy with h1 | h1
    · exact ⟨(h.ok y h1).1, (h.ok y h1).2.1, by have := (h.ok y h1).2.2; omega⟩
    · rw [List.mem_singleton.1 h1]; exact ⟨hx, by omega, by omega⟩
  · refine List.pairwise_append.2 ⟨h.asc, List.pairwise_singleton _ _, fun a ha b hb => ?_⟩
    rw [List.mem_singleton.1 hb, hxi]
    exact (h.ok a ha).2.2
end
set_option maxRecDepth 100000 in
set_option maxHeartbeats 2000000 in
theorem dice_List (g T c r : Nat) (w : World) (hd : DiceAt 89 w g) (hT : T ≤ 1000) (hc : c ≤ 4095) (hr : r ≤ 4095) :
  Calls Tryz.prog 50 #[.pointer (some ⟨g, 0, none⟩), .int .i64 (T : Int), .int .i64 (c : Int), .int .i64 (r : Int)] w (ListR w g T c r) := by
 have hgl := hd.lt
 have HD := hid hd
 obtain ⟨i0, hi, hz0, hz1, hz2⟩ := info_parts info_tab
 clear hd
 go_enter Tryz.func50, Tryz.ntmps50
 generalize hLA : Code.loop _ = LA
 go_wp2_with fail
 with_reducible refine (dice_Pick g _ _ HD.out (by omega) (by omega)).mono ?_
 rintro e w1 ⟨z0, rfl, hz0', hd1, hr1, hs1⟩
 have HR1 := hid hr1
 have HD1 := hid hd1
 clear hr1 hd1
 go_wp2_with fail
 with_reducible refine (dice_Pick g _ _ HD1.out (by omega) (by omega)).mono ?_
 rintro e w2 ⟨k, rfl, hk, hd2, hr2, hs2⟩
 have HR2 := hid (HR1.out.trans (hr2.mono HR1.out.size))
 have HD2 := hid hd2
 clear hr2 hd2 HR1 HD1
 go_wp2_with fail
 subst hLA
 go_loopg [9, 10, 11] k (fun N v i n wr => ∃ (ts : List Ta) (z : Nat), i = .int .i64 (z : Int) ∧ n = .int .i64 (N : Int) ∧ ts.length + N = k ∧ z ≤ 2 + 3 * ts.length ∧ Hid (LisSt w wr g c r z v ts))
 case atStart => exact ⟨[], z0, rfl, rfl, by simp, by simp; omega, hid ⟨TaSt.start HR2.out.size, by simp, List.Pairwise.nil, HD2.out, HR2.out⟩⟩
 case round =>
  obtain ⟨ts, z, rfl, rfl, hl, hz, HST⟩ := hrel
  obtain ⟨L0, hL0⟩ := HST.out.own.owns
  obtain ⟨va, vc, rfl⟩ := own_slice hL0
  have HL0 := hid hL0
  have hrz := HST.out.roll.size
  clear hL0
  generalize hcl : ts.length = L at *
  have HCL := hid hcl
  clear hcl
  by_cases hp : 0 < gk
  ·go_wp2_with fail
   with_reducible refine (dice_Table g c r _ _ HST.out.dice (by omega) (by omega)).mono ?_
   rintro e w5 ⟨⟨xi, xn, xc⟩, u, rfl, hxi, hok5, hrd5, hd5, hr5⟩
   obtain rfl : (z : Int) = xi := hxi.symm
   have HST5 := hid (HST.out.rolled hr5 hd5 (by omega))
   have HL5 := hid (own_roll HL0.out hr5 (Nat.le_refl _) (by omega))
   have HOB := hid (HL0.out.lt)
   have HOK5 := hid hok5
   have HRD5 := hid hrd5
   obtain ⟨ua, uc, rfl, hun, hum⟩ : ∃ ua uc, u = .slice ua xc.length uc ∧ xc.length ≤ uc ∧ uc ≤ maxLen := by
    obtain ⟨cv, ⟨ua, uc, rfl, h1, h2, -⟩, -⟩ := hrd5
    exact ⟨ua, uc, rfl, h1, h2⟩
   have hrz5 := hr5.size
   clear hok5 hrd5 hd5 hr5
   go_wp2_with (at_builtin; refine wpList_append_form _ rfl _ _ 91 91 rfl w.heap.size 145 145 i0 (.agg #[.int .i64 0, .string ⟨#[]⟩, .slice none 0 0]) 3 48 Tryz.underlying91 Tryz.underlying91 hi hz0 hz1 hz2 rfl (by decide) (.slice va L vc) L L0 rfl (HL5.out.alloc _) (some ⟨_, 0, none⟩) 1 1 [.int .i64 (z : Int), .string xn, .slice ua xc.length uc] rfl rfl (fun _ => ⟨_, rfl, cell_three_at _ _ _ _ (by simp)⟩) (by intro u hu; simp at hu; rcases hu with rfl | rfl | rfl <;> rfl) (by omega) (by unfold maxLen; omega) (by omega) (by simp; omega) ?_; intro p7 cap7 w7 hown7 hg7 hat7 hlt7; have HG7 := hid hg7; have HOWN7 := hid hown7; have HAT7 := hid hat7; clear hown7 hg7 hat7)
   have HNEW : Hid (RdCo (w5.alloc (.cells #[.int .i64 (z : Int), .string xn, .slice ua xc.length uc] 145)) (Own (w5.alloc (.cells #[.int .i64 (z : Int), .string xn, .slice ua xc.length uc] 145)) w.heap.size (.slice va L vc)) (.slice ua xc.length uc) xc) := hid ((HRD5.out.keep (fun p hp => World.cell?_alloc_lt _ _ _ hp.2)).more (fun b hb => ⟨by have h1 : wr.heap.size ≤ b := hb.1; omega, by have := hb.2; simp; omega, fun e => by have := (HOB.out _ e).2; have h1 : wr.heap.size ≤ b := hb.1; omega⟩))
   have HL6 : Hid ((w5.alloc (.cells #[.int .i64 (z : Int), .string xn, .slice ua xc.length uc] 145)).ownsRow w.heap.size 145 3 (.slice va L vc) ts.length L0) := hid (by rw [HCL.out]; exact HL5.out.alloc _)
   have HST6 := hid (HST5.out.alloc (by omega) (.cells #[.int .i64 (z : Int), .string xn, .slice ua xc.length uc] 145))
   have HST7 := hid (HST6.out.push (x := ⟨z, xn, xc⟩) (m := L + 1) HOK5.out rfl (by rw [HCL.out]) HL6.out HOWN7.out HG7.out HAT7.out HNEW.out (by omega))
   clear HST5 HST6 HNEW HL6 HOWN7 HG7 HAT7
   go_wp2_with fail
   with_reducible refine (dice_Pick g _ _ HST7.out.dice (by omega) (by omega)).mono ?_
   rintro e w8 ⟨q, rfl, hq, hd8, hr8, hs8⟩
   have HST8 := hid (HST7.out.rolled hr8 hd8 (by omega) |>.more (show z + 1 ≤ z + (1 + q) by omega))
   clear hd8 hr8
   go_wp2
   go_roundg (gk - 1)
   case rel => exact ⟨ts ++ [⟨z, xn, xc⟩], z + (1 + q), by go_num, by go_num, by rw [List.length_append, List.length_singleton, HCL.out]; omega, by rw [List.length_append, List.length_singleton, HCL.out]; omega, HST8⟩
   case measure => omega
  ·obtain rfl : gk = 0 := by omega
   have HFIN : Hid (ListR w g T c r (.returned (.slice va L vc)) wr) := hid (by
    have h1 := HCL.out
    subst h1
    exact ⟨ts, va, vc, rfl, HST.out.own.read, ⟨by omega, fun t ht => ⟨(HST.out.ok t ht).1, (HST.out.ok t ht).2.1, by have := (HST.out.ok t ht).2.2; omega⟩, HST.out.asc⟩, HST.out.dice, HST.out.roll⟩)
   go_wp2
   go_ret
   exact HFIN.out
end Go.Proofs.YtikiimlmoalbcaaGreatDoor

namespace Go.Proofs
open Go.Shelf
def Tryz.layValid_ren : Go.Shelf.Ren := ⟨fun | 196 => 232 | 259 => 247 | n => n, fun | 9 => 9 | 4 => 4 | 3 => 3 | 5 => 5 | 12 => 12 | 119 => 263 | 0 => 0 | 46 => 161 | 139 => 266 | 138 => 265 | 53 => 159 | n => n, fun | 3 => 2 | 4 => 3 | n => n⟩
theorem Tryz.layValid : Go.Proofs.Lays.n196 Tryz.prog Tryz.layValid_ren := {
  mixed := by kernel_rfl
  f196 := Tryz.func232.trans (congrArg some (by kernel_rfl))
  f259 := Tryz.func247.trans (congrArg some (by kernel_rfl))
  t0 := Tryz.underlying0
  a0 := Tryz.isAgg0
  z0 := Tryz.sizeOf0
  v0 := Tryz.zeroValue0
  t3 := Tryz.underlying3
  a3 := Tryz.isAgg3
  z3 := Tryz.sizeOf3
  v3 := Tryz.zeroValue3
  t4 := Tryz.underlying4
  a4 := Tryz.isAgg4
  z4 := Tryz.sizeOf4
  v4 := Tryz.zeroValue4
  t5 := Tryz.underlying5
  a5 := Tryz.isAgg5
  z5 := Tryz.sizeOf5
  v5 := Tryz.zeroValue5
  t9 := Tryz.underlying9
  a9 := Tryz.isAgg9
  z9 := Tryz.sizeOf9
  v9 := Tryz.zeroValue9
  t12 := Tryz.underlying12
  a12 := Tryz.isAgg12
  z12 := Tryz.sizeOf12
  v12 := Tryz.zeroValue12
  t46 := Tryz.underlying161
  a46 := Tryz.isAgg161
  z46 := Tryz.sizeOf161
  v46 := Tryz.zeroValue161
  t53 := Tryz.underlying159
  a53 := Tryz.isAgg159
  z53 := Tryz.sizeOf159
  v53 := Tryz.zeroValue159
  t119 := Tryz.underlying263
  a119 := Tryz.isAgg263
  z119 := Tryz.sizeOf263
  t138 := Tryz.underlying265
  a138 := Tryz.isAgg265
  z138 := Tryz.sizeOf265
  v138 := Tryz.zeroValue265
  t139 := Tryz.underlying266
  a139 := Tryz.isAgg266
  z139 := Tryz.sizeOf266
  v139 := Tryz.zeroValue266
  g3 := by kernel_rfl
  g4 := by kernel_rfl }
end Go.Proofs

namespace Go.Proofs.YtikiimlmoalbcaaGreatDoor
open Go.RowKit Go.Shelf
def Tabs (w : World) : Prop := Lib.Utf8Tabs 2 3 w
theorem Tabs.below {w w' : World} (h : Tabs w) (hb : Below w.heap.size w w') : Tabs w' := Utf8Tabs_below h hb
theorem ref_Valid (s : ByteArray) (w : World) (hs : s.size ≤ 1099511627776) (hT : Tabs w) : Calls Tryz.prog 212 #[.string s] w (Ret w (.bool (Lib.validD s.data.toList))) := by
  have HV : Hid (∀ W, Tabs W → Calls Tryz.prog 232 #[.string s] W (Ret W (.bool (Lib.validD s.data.toList)))) := hid (fun W h => Any.utf8_ValidString Tryz.layValid s W (by omega) h)
  have HT := hid hT
  clear hT
  generalize Lib.validD s.data.toList = b at *
  go_enter Tryz.func212, Tryz.ntmps212
  go_wp2_with fail
  with_reducible refine (HV.out _ HT.out).mono ?_
  rintro e w1 ⟨rfl, hb1⟩
  have HB1 := hid hb1
  clear hb1
  go_wp2
  go_ret
  exact ⟨rfl, HB1.out⟩
end Go.Proofs.YtikiimlmoalbcaaGreatDoor

namespace Go.Proofs.YtikiimlmoalbcaaGreatDoor
open Go.RowKit
theorem ref_name (s : ByteArray) (w : World) (h : TextOk 1024 s) (hT : Tabs w) : Calls Tryz.prog 181 #[.string s] w (Ret w (.bool true)) := by
  have HV := hid (ref_Valid s w (by have := h.1; omega) hT)
  rw [h.2] at HV
  have hs := h.1
  clear h hT
  go_enter Tryz.func181, Tryz.ntmps181
  go_wp2_with fail
  with_reducible refine HV.out.mono ?_
  rintro e w1 ⟨rfl, hb⟩
  have HB := hid hb
  clear hb
  go_wp2
  go_ret
  exact ⟨ret_bool (decide_eq_true (by omega)), HB.out⟩
set_option maxHeartbeats 400000 in
theorem ref_ValidCell (c : Cl) (w : World) (hc : CellOk c) (hT : Tabs w) : Calls Tryz.prog 182 #[.agg #[.bool c.null, .string c.text]] w (Ret w (.bool true)) := by
  obtain ⟨n, t⟩ := c
  obtain ⟨hn, ht, hv⟩ := hc
  have hb0 : Below w.heap.size w (w.alloc (.cells #[.bool n, .string t] 185)) := (Below.refl _ _).alloc (Nat.le_refl _) _
  have HV := hid (ref_Valid t (w.alloc (.cells #[.bool n, .string t] 185)) (by simp at ht; omega) (hT.below hb0))
  simp only at hv ht hn
  rw [hv] at HV
  have hx := BoxN.new w #[.bool n, .string t] 185
  have HB0 := hid hb0
  clear hT hb0 hv
  cases n
  · clear hn
    go_enter Tryz.func182, Tryz.ntmps182
    go_wp2_with fail
    with_reducible refine HV.out.mono ?_
    rintro e w1 ⟨rfl, hb⟩
    have hx1 := hx.below hb (by simp)
    have c0 := hx1.cell 0 rfl
    have c1 := hx1.cell 1 rfl
    have HB := hid (HB0.out.trans (hb.mono (by simp)))
    clear hb hx1 hx
    go_wp2
    go_ret
    exact ⟨rfl, HB.out⟩
  · obtain rfl := hn rfl
    go_enter Tryz.func182, Tryz.ntmps182
    go_wp2_with fail
    with_reducible refine HV.out.mono ?_
    rintro e w1 ⟨rfl, hb⟩
    have hx1 := hx.below hb (by simp)
    have c0 := hx1.cell 0 rfl
    have c1 := hx1.cell 1 rfl
    have HB := hid (HB0.out.trans (hb.mono (by simp)))
    clear hb hx1 hx hn
    go_wp2
    go_ret
    exact ⟨rfl, HB.out⟩
theorem tabV_of {c r : Nat} {t : Ta} (h : TabOk c r t) (hc : c ≤ 64) (hr : r ≤ 4096) (h0 : 0 ≤ t.id) (h1 : t.id ≤ 1073741824) : TabV t := by
  obtain ⟨h2, h3, n, h4, h5⟩ := h
  exact ⟨h0, h1, h2.more (by omega), by omega, n, by omega, fun x hx => ⟨(h5 x hx).1.more (by omega), (h5 x hx).2.1, (h5 x hx).2.2⟩⟩
set_option maxRecDepth 100000 in
set_option maxHeartbeats 2000000 in
theorem ref_ValidTab (t : Ta) (v : Value) (B : Nat) (w : World) (ht : TabV t) (hv : RdCo w (· < B) v t.cols) (hB : B ≤ w.heap.size) (hT : Tabs w) :
  Calls Tryz.prog 148 #[.agg #[.int .i64 t.id, .string t.name, v]] w (Ret w (.bool true)) := by
 obtain ⟨id, nm, xs⟩ := t
 obtain ⟨h0, h1, hnm, hxs, n, hn, hcs⟩ := ht
 simp only at h0 h1 hnm hxs hcs hv
 obtain ⟨cv, hcv, hcl⟩ := hv
 obtain ⟨a, k, rfl, hk, hm, hrd⟩ := hcv
 have hb0 : Below w.heap.size w (w.alloc (.cells #[.int .i64 id, .string nm, .slice a xs.length k] 145)) := (Below.refl _ _).alloc (Nat.le_refl _) _
 have HN := hid (ref_name nm (w.alloc (.cells #[.int .i64 id, .string nm, .slice a xs.length k] 145)) hnm (hT.below hb0))
 have hx := BoxN.new w #[.int .i64 id, .string nm, .slice a xs.length k] 145
 have HB0 := hid hb0
 have HT := hid hT
 have HRD := hid hrd
 have HCL := hid hcl
 have HCS := hid hcs
 clear hb0 hT hrd hcl hcs hnm
 generalize hxl : xs.length = L at *
 have HXL := hid hxl
 clear hxl
 unfold maxLen at hm
 go_enter Tryz.func148, Tryz.ntmps148
 generalize hLA : Code.loop _ = LA
 go_wp2_with fail
 with_reducible refine HN.out.mono ?_
 rintro e w1 ⟨rfl, hb⟩
 have hx1 := hx.below hb (by simp)
 have c0 := hx1.cell 0 rfl
 have c1 := hx1.cell 1 rfl
 have c2 := hx1.cell 2 rfl
 have HX1 := hid hx1
 have HB1 := hid (HB0.out.trans (hb.mono (by simp)))
 have hz1 := hx1.lt
 clear hb hx1 hx HN
 go_wp2_with fail
 clear c0 c1 c2
 subst hLA
 go_loopg [30] L (fun N i wr => ∃ q : Nat, q + N = L ∧ i = .int .i64 (q : Int) ∧ Hid (Below w1.heap.size w1 wr))
 case atStart => exact ⟨0, by omega, rfl, hid (Below.refl _ _)⟩
 case round =>
  obtain ⟨q, hq, rfl, HB⟩ := hrel
  by_cases hp : 0 < gk
  ·obtain ⟨b, o, rfl, hb, hcell⟩ := HRD.out (by omega)
   have hbw : b < w.heap.size := by omega
   have HBW := hid (HB1.out.trans (HB.out.mono HB1.out.size))
   have hwz := HBW.out.size
   have hwz1 := HB.out.size
   obtain ⟨hxn, hxl, hxc⟩ := HCS.out _ (getD_mem (l := xs) (i := q) (by have := HXL.out; omega) Co.z)
   obtain ⟨-, hxl0, -⟩ := HCS.out _ (getD_mem (l := xs) (i := 0) (by have := HXL.out; omega) Co.z)
   have HRQ := hid (HCL.out q (by omega))
   obtain ⟨ca, ck, hcq, -, -, -⟩ := HCL.out q (by omega)
   obtain ⟨ca0, ck0, hc0, -, -, -⟩ := HCL.out 0 (by omega)
   rw [hxl] at hcq
   rw [hxl0] at hc0
   have k0 : wr.cell? ⟨b, o + q * 2, none⟩ = some (.string (xs.getD q Co.z).name) := (HBW.out.cell (p := ⟨b, o + q * 2, none⟩) hbw).trans (hcell q (by omega) 0 (by omega))
   have k1 : wr.cell? ⟨b, o + q * 2 + 1, none⟩ = some (cv q) := (HBW.out.cell (p := ⟨b, o + q * 2 + 1, none⟩) hbw).trans (hcell q (by omega) 1 (by omega))
   have k2 : wr.cell? ⟨b, o + 1, none⟩ = some (cv 0) := (HBW.out.cell (p := ⟨b, o + 1, none⟩) hbw).trans (by have := hcell 0 (by omega) 1 (by omega); simp only [Nat.zero_mul, Nat.add_zero] at this; exact this)
   have k3 := (HX1.out.below HB.out hz1).cell 2 rfl
   rw [hcq] at k1
   rw [hc0] at k2
   rw [hcq] at HRQ
   have HXN := hid hxn
   have HXC := hid hxc
   have HXL2 := hid hxl
   clear hcell hcq hc0 hxl0 hxn hxc hxl
   generalize xs.getD q Co.z = x at *
   obtain ⟨xn, xc⟩ := x
   have HNM := hid (fun W h => ref_name xn W HXN.out h)
   have HCC := hid (fun c h W hW => ref_ValidCell c W (HXC.out c h) hW)
   have n0 : ∀ O : Obj, (wr.alloc O).cell? ⟨b, o + 1, none⟩ = some (.slice ca0 n ck0) := fun O => (World.cell?_alloc_lt _ _ _ (by show b < _; omega)).trans k2
   have n1 : ∀ O : Obj, (wr.alloc O).cell? ⟨w.heap.size, 2, none⟩ = some (.slice (some ⟨b, o, none⟩) L k) := fun O => (World.cell?_alloc_lt _ _ _ (by show w.heap.size < _; omega)).trans k3
   have n2 := n0 (.cells #[.string xn, .slice ca n ck] 139)
   have n3 := n1 (.cells #[.string xn, .slice ca n ck] 139)
   clear n0 n1
   have hd : decide ((4096 : Int) < (n : Int)) = false := by simp; omega
   have hL0 : 0 < L := by omega
   have hL1 : (0 : Int) < (L : Int) := by omega
   have hL2 : L ≠ 0 := by omega
   go_wp2_with fail
   go_region_held3 (fun w' => w'.cell? ⟨wr.heap.size, 0, none⟩ = some (.string xn) ∧ w'.cell? ⟨wr.heap.size, 1, none⟩ = some (.slice ca n ck) ∧ w'.cell? ⟨b, o + 1, none⟩ = some (.slice ca0 n ck0) ∧ w'.cell? ⟨w.heap.size, 2, none⟩ = some (.slice (some ⟨b, o, none⟩) L k))
    (first | exact ⟨o0, o1, o2, o3⟩ | go_keep)
    (first
     | (go_at_call 181; go_must (((with_reducible refine (HNM.out _ (HT.out.below (by have := HBW.out; repeat' (first | (with_reducible exact Below.refl _ _) | (with_reducible assumption) | (with_reducible refine below_drewN ?_) | (with_reducible refine Below.alloc ?_ ?_ _) | (with_reducible refine Below.drew ?_) | (with_reducible refine Below.setCell ?_ ?_ _) | (with_reducible refine Below.trans ?_ (Below.mono (by with_reducible assumption) ?_)) | go_size)))).mono ?_); rintro e w5 ⟨rfl, hb5⟩; have o0 := cell_later hb5 (a := ⟨wr.heap.size, 0, none⟩) (v := .string xn) (by go_cell); have o1 := cell_later hb5 (a := ⟨wr.heap.size, 1, none⟩) (v := .slice ca n ck) (by go_cell); have o2 := cell_later hb5 (a := ⟨b, o + 1, none⟩) (v := .slice ca0 n ck0) (by go_cell); have o3 := cell_later hb5 (a := ⟨w.heap.size, 2, none⟩) (v := .slice (some ⟨b, o, none⟩) L k) (by go_cell)))))
   have HB5 : Hid (Below wr.heap.size wr w5) := hid (by repeat' (first | (with_reducible exact Below.refl _ _) | (with_reducible assumption) | (with_reducible refine below_drewN ?_) | (with_reducible refine Below.alloc ?_ ?_ _) | (with_reducible refine Below.drew ?_) | (with_reducible refine Below.setCell ?_ ?_ _) | (with_reducible refine Below.trans ?_ (Below.mono (by with_reducible assumption) ?_)) | go_size))
   have HBW5 := hid (HBW.out.trans (HB5.out.mono hwz))
   have HBI := hid (HB.out.trans (HB5.out.mono hwz1))
   have hz5 := HB5.out.size
   clear hb5 o0 o2 o3 n2 n3 k0 k1 k2 k3 hd
   obtain ⟨wo, rfl⟩ : ∃ wo, wo = wr := ⟨wr, rfl⟩
   obtain ⟨ko, rfl⟩ : ∃ ko, ko = gk := ⟨gk, rfl⟩
   obtain ⟨ca', ck', hce, -, -, hrc⟩ := HRQ.out
   simp only at hrc hce
   rw [HXL2.out] at hrc hce
   obtain ⟨rfl, -, rfl⟩ := Value.slice.inj hce
   have HRC := hid hrc
   clear hrc hce HRQ
   go_wp2_with fail
   go_loopg [59] n (fun N i W => ∃ j : Nat, j + N = n ∧ i = .int .i64 (j : Int) ∧ Hid (Below w5.heap.size w5 W))
   case atStart => exact ⟨0, by omega, rfl, hid (by have := Below.refl w5.heap.size w5; repeat' (first | (with_reducible exact Below.refl _ _) | (with_reducible assumption) | (with_reducible refine below_drewN ?_) | (with_reducible refine Below.alloc ?_ ?_ _) | (with_reducible refine Below.drew ?_) | (with_reducible refine Below.setCell ?_ ?_ _) | (with_reducible refine Below.trans ?_ (Below.mono (by with_reducible assumption) ?_)) | go_size))⟩
   case round =>
    obtain ⟨j, hj, rfl, HBJ⟩ := hrel
    by_cases hpj : 0 < gk
    ·obtain ⟨b2, o2, rfl, hb2, hcell2⟩ := HRC.out (by omega)
     have hbw2 : b2 < w.heap.size := by omega
     have hjz := HBJ.out.size
     have HBWJ := hid (HBW5.out.trans (HBJ.out.mono HBW5.out.size))
     have k0 : wr.cell? ⟨b2, o2 + j * 2, none⟩ = some (.bool (xc.getD j Cl.z).null) := (HBWJ.out.cell (p := ⟨b2, o2 + j * 2, none⟩) hbw2).trans (hcell2 j (by omega) 0 (by omega))
     have k1 : wr.cell? ⟨b2, o2 + j * 2 + 1, none⟩ = some (.string (xc.getD j Cl.z).text) := (HBWJ.out.cell (p := ⟨b2, o2 + j * 2 + 1, none⟩) hbw2).trans (hcell2 j (by omega) 1 (by omega))
     have HCJ := hid (HCC.out _ (getD_mem (l := xc) (i := j) (by have h : xc.length = n := HXL2.out; omega) Cl.z))
     clear hcell2
     generalize xc.getD j Cl.z = c at *
     obtain ⟨cn, ct⟩ := c
     go_wp2_with fail
     with_reducible refine (HCJ.out _ (HT.out.below (by have := HBWJ.out; repeat' (first | (with_reducible exact Below.refl _ _) | (with_reducible assumption) | (with_reducible refine below_drewN ?_) | (with_reducible refine Below.alloc ?_ ?_ _) | (with_reducible refine Below.drew ?_) | (with_reducible refine Below.setCell ?_ ?_ _) | (with_reducible refine Below.trans ?_ (Below.mono (by with_reducible assumption) ?_)) | go_size)))).mono ?_
     rintro e w6 ⟨rfl, hb6⟩
     have HB6 : Hid (Below wr.heap.size wr w6) := hid (by repeat' (first | (with_reducible exact Below.refl _ _) | (with_reducible assumption) | (with_reducible refine below_drewN ?_) | (with_reducible refine Below.alloc ?_ ?_ _) | (with_reducible refine Below.drew ?_) | (with_reducible refine Below.setCell ?_ ?_ _) | (with_reducible refine Below.trans ?_ (Below.mono (by with_reducible assumption) ?_)) | go_size))
     clear hb6 k0 k1
     go_wp2_with fail
     go_roundg (gk - 1)
     case rel => exact ⟨j + 1, by omega, by go_num, hid (HBJ.out.trans (HB6.out.mono hjz))⟩
     case measure => omega
    ·obtain rfl : j = n := by omega
     go_wp2_with fail
     go_roundg (ko - 1)
     case rel => exact ⟨q + 1, by omega, by go_num, hid (HBI.out.trans (HBJ.out.mono (by omega)))⟩
     case measure => omega
  ·obtain rfl : q = L := by omega
   go_wp2
   go_ret
   exact ⟨rfl, HB1.out.trans (HB.out.mono HB1.out.size)⟩
end Go.Proofs.YtikiimlmoalbcaaGreatDoor
