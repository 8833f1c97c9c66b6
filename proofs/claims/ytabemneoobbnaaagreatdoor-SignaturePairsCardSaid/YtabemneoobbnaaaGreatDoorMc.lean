/- Contract of the dice's Table. Contract of the dice's List. -/
import Derived.Test.YtabemneoobbnaaaGreatDoorMa
namespace Go.Proofs.YtabemneoobbnaaaGreatDoor
open Go.RowKit

theorem info_col : (Tryz.prog.info? 52).map (fun i => (i.zero, i.size, i.bytes)) = some (some (.agg #[.string ⟨#[]⟩, .slice none 0 0]), 2, 40) := by kernel_rfl
theorem info_tab : (Tryz.prog.info? 84).map (fun i => (i.zero, i.size, i.bytes)) = some (some (.agg #[.int .i64 0, .string ⟨#[]⟩, .slice none 0 0]), 3, 48) := by kernel_rfl

def TabOk (c r : Nat) (t : Ta) : Prop := TextOk 6 t.name ∧ t.cols.length ≤ c ∧ ∃ n, n ≤ r ∧ ∀ x ∈ t.cols, ColOk n x
def TabR (w : World) (g : Nat) (id : Int) (c r : Nat) (e : Ending) (w' : World) : Prop :=
  ∃ (t : Ta) (v : Value), e = .returned (.agg #[.int .i64 t.id, .string t.name, v]) ∧ t.id = id ∧ TabOk c r t ∧ RdCo w' (News w w') v t.cols ∧ DiceAt 87 w' g ∧ Roll w.heap.size g w w'

def tabNames : List ByteArray := [⟨#[116]⟩, ⟨#[112, 101, 111, 112, 108, 101]⟩, ⟨#[112, 108, 97, 99, 101, 115]⟩]
theorem tabNames_ok : ∀ x ∈ tabNames, TextOk 6 x := by unfold TextOk; decide +kernel
theorem tabName_at (i : Nat) (h : i < 3) : ∃ z : ByteArray, TextOk 6 z ∧ (#[.string ⟨#[116]⟩, .string ⟨#[112, 101, 111, 112, 108, 101]⟩, .string ⟨#[112, 108, 97, 99, 101, 115]⟩] : Array Value)[i]? = some (.string z) := by
  rcases (show i = 0 ∨ i = 1 ∨ i = 2 by omega) with rfl | rfl | rfl
  · exact ⟨_, tabNames_ok _ (.head _), rfl⟩
  · exact ⟨_, tabNames_ok _ (.tail _ (.head _)), rfl⟩
  · exact ⟨_, tabNames_ok _ (.tail _ (.tail _ (.head _))), rfl⟩

/-- the state of Table's loop -/
structure TabSt (w0 ws w : World) (g cb base n : Nat) (id : Int) (nm : ByteArray) (v : Value) (xs : List Co) : Prop where
  box : BoxN w cb 84 #[.int .i64 id, .string nm, v]
  own : CoSt w base 52 v xs
  ok : ∀ x ∈ xs, ColOk n x
  dice : DiceAt 87 w g
  roll : Roll w0.heap.size g w0 w
  low : base ≤ w.heap.size
  keep : ∀ k, k < base → k ≠ g → k ≠ cb → w.heap[k]? = ws.heap[k]?
section
variable {w0 ws w w' : World} {g cb base n : Nat} {id : Int} {nm : ByteArray} {v : Value} {xs : List Co}
theorem TabSt.rolled (h : TabSt w0 ws w g cb base n id nm v xs) (hr : Roll w.heap.size g w w') (hd : DiceAt 87 w' g) (hg : g < base) (hne : cb ≠ g) : TabSt w0 ws w' g cb base n id nm v xs :=
  ⟨h.box.roll hr h.box.lt hne, h.own.roll hr (Nat.le_refl _) hg, h.ok, hd, h.roll.trans (hr.mono h.roll.size), Nat.le_trans h.low hr.size, fun k h1 h2 h3 => (hr.block k (Nat.lt_of_lt_of_le h1 h.low) h2).trans (h.keep k h1 h2 h3)⟩
theorem TabSt.alloc (h : TabSt w0 ws w g cb base n id nm v xs) (hg : g < base) (hne : cb ≠ g) (O : Obj) : TabSt w0 ws (w.alloc O) g cb base n id nm v xs :=
  h.rolled ((Roll.refl _ _ _).alloc (Nat.le_refl _) O) (h.dice.alloc O) hg hne
theorem TabSt.drew (h : TabSt w0 ws w g cb base n id nm v xs) : TabSt w0 ws w.drew g cb base n id nm v xs :=
  ⟨h.box, h.own.drewN 1, h.ok, h.dice, h.roll.drewN 1, h.low, h.keep⟩
theorem TabSt.push (h : TabSt w0 ws w g cb base n id nm v xs) {x : Co} (hx : ColOk n x) {L : List Value} {u : Value} {p m cap : Nat} (hm : m = xs.length + 1) (hL : w.ownsRow base 52 2 v xs.length L)
    (hown : w'.ownsRow base 52 2 (.slice (some ⟨p, 0, none⟩) m cap) m (L ++ [.string x.name, u])) (hgr : w.grownBy w' v.ownBlock) (hat : v.ownBlock = some p ∨ p = w.heap.size)
    (hnew : RdCl w (Own w base v) u x.cells) (hcb : cb < base) (hc0 : w0.heap.size ≤ cb) (hg : g < cb) :
    TabSt w0 ws (w'.setCell ⟨cb, 2, none⟩ (.slice (some ⟨p, 0, none⟩) m cap)) g cb base n id nm (.slice (some ⟨p, 0, none⟩) m cap) (xs ++ [x]) := by
  have hv : ∀ k, v.ownBlock = some k → base ≤ k := fun k hk => (hL.lt k hk).1
  have hlo := h.low
  have hx' : ∀ k, k < base → w'.heap[k]? = w.heap[k]? := fun k hk => hgr.block k (by omega) (fun e => by have := hv k e.symm; omega)
  refine ⟨(show BoxN w' cb _ _ from (hx' cb hcb).trans h.box).set 2 _, (h.own.push hL hm hown hgr hat hnew).setCell hcb _, ?_, dice_store (h.dice.keep fun k hk => hx' k (by omega)) hg _, ?_, by have := hgr.size; simp; omega, fun k h1 h2 h3 => (Below.heap_setCell _ _ _ _ h3).trans ((hx' k h1).trans (h.keep k h1 h2 h3))⟩
  · intro y hy
    rcases List.mem_append.1 hy with h1 | h1
    · exact h.ok y h1
    · rw [List.mem_singleton.1 h1]; exact hx
  · exact h.roll.trans ⟨hgr.os, hgr.tape, hgr.output, by have := hgr.size; simpa using this, fun k hk hkg => (Below.heap_setCell _ _ _ _ (by show k ≠ cb; omega)).trans (hx' k (by omega))⟩
end

set_option maxRecDepth 100000 in
set_option maxHeartbeats 2000000 in
theorem dice_Table (g c r : Nat) (id : Int) (w : World) (hd : DiceAt 87 w g) (hc : c ≤ 4095) (hr : r ≤ 4095) :
    Calls Tryz.prog 44 #[.pointer (some ⟨g, 0, none⟩), .int .i64 id, .int .i64 (c : Int), .int .i64 (r : Int)] w (TabR w g id c r) := by
  have hgl := hd.lt
  have HD := hid hd
  obtain ⟨i0, hi, hz0, hz1, hz2⟩ := info_parts info_col
  clear hd
  go_enter Tryz.func44, Tryz.ntmps44
  generalize hLA : Code.loop _ = LA
  go_wp2_with fail
  have hd0 := (HD.out.alloc (.cells #[.int .i64 0, .string ⟨#[]⟩, .slice none 0 0] 84)).alloc (.cells #[.string ⟨#[116]⟩, .string ⟨#[112, 101, 111, 112, 108, 101]⟩, .string ⟨#[112, 108, 97, 99, 101, 115]⟩] 9)
  have hr0 := ((Roll.refl w.heap.size g w).alloc (Nat.le_refl _) (.cells #[.int .i64 0, .string ⟨#[]⟩, .slice none 0 0] 84)).alloc (by simp) (.cells #[.string ⟨#[116]⟩, .string ⟨#[112, 101, 111, 112, 108, 101]⟩, .string ⟨#[112, 108, 97, 99, 101, 115]⟩] 9)
  have hb0 := (BoxN.new w #[.int .i64 0, .string ⟨#[]⟩, .slice none 0 0] 84).alloc (.cells #[.string ⟨#[116]⟩, .string ⟨#[112, 101, 111, 112, 108, 101]⟩, .string ⟨#[112, 108, 97, 99, 101, 115]⟩] 9)
  have hn0 := BoxN.new (w.alloc (.cells #[.int .i64 0, .string ⟨#[]⟩, .slice none 0 0] 84)) #[.string ⟨#[116]⟩, .string ⟨#[112, 101, 111, 112, 108, 101]⟩, .string ⟨#[112, 108, 97, 99, 101, 115]⟩] 9
  have hz0' : ((w.alloc (.cells #[.int .i64 0, .string ⟨#[]⟩, .slice none 0 0] 84)).alloc (.cells #[.string ⟨#[116]⟩, .string ⟨#[112, 101, 111, 112, 108, 101]⟩, .string ⟨#[112, 108, 97, 99, 101, 115]⟩] 9)).heap.size = w.heap.size + 2 := by simp
  simp only [World.size_alloc] at hn0
  with_reducible refine (dice_Pick g _ _ hd0 (by omega) (by omega)).mono ?_
  clear hd0
  generalize ((w.alloc (.cells #[.int .i64 0, .string ⟨#[]⟩, .slice none 0 0] 84)).alloc (.cells #[.string ⟨#[116]⟩, .string ⟨#[112, 101, 111, 112, 108, 101]⟩, .string ⟨#[112, 108, 97, 99, 101, 115]⟩] 9)) = W0 at *
  rintro e w1 ⟨m, rfl, hm, hd1, hr1, hs1⟩
  obtain ⟨nm, hnm, hcm⟩ := tabName_at m (by omega)
  have c1 := (hn0.roll hr1 (by omega) (by omega)).cell m hcm
  have HB1 := hid (hb0.roll hr1 (by omega) (by omega))
  have HR1 := hid (hr0.trans (hr1.mono (by omega)))
  have HD1 := hid hd1
  have HNM := hid hnm
  clear hn0 hb0 hr0 hr1 hd1 hcm hnm
  go_wp2_with fail
  have hd2 := HD1.out.alloc (.cells #[.int .i64 id, .string nm, .slice none 0 0] 84)
  have hr2 := HR1.out.alloc (by omega) (.cells #[.int .i64 id, .string nm, .slice none 0 0] 84)
  have hb2 := HB1.out.alloc (.cells #[.int .i64 id, .string nm, .slice none 0 0] 84)
  have hc2 := BoxN.new w1 #[.int .i64 id, .string nm, .slice none 0 0] 84
  have hz2' : (w1.alloc (.cells #[.int .i64 id, .string nm, .slice none 0 0] 84)).heap.size = w1.heap.size + 1 := by simp
  with_reducible refine (dice_Pick g _ _ hd2 (by omega) (by omega)).mono ?_
  clear hd2 c1
  generalize (w1.alloc (.cells #[.int .i64 id, .string nm, .slice none 0 0] 84)) = W1 at *
  rintro e w2 ⟨n, rfl, hn, hd2, hr2', hs2⟩
  have hcb : w1.heap.size = w.heap.size + 2 := by omega
  have HC2 := hid (hc2.roll hr2' (by omega) (by omega))
  rw [hcb] at HC2
  have HB2 := hid (hb2.roll hr2' (by omega) (by omega))
  have HR2 := hid (hr2.trans (hr2'.mono (by omega)))
  have HD2 := hid hd2
  clear hb2 hc2 hr2 hr2' hd2 hcb
  go_wp2_with fail
  with_reducible refine (dice_Pick g _ _ HD2.out (by omega) (by omega)).mono ?_
  rintro e w3 ⟨k, rfl, hk, hd3, hr3, hs3⟩
  have hc2z := HC2.out.lt
  have HC3 := hid (HC2.out.roll hr3 (by omega) (by omega))
  have HB3 := hid (HB2.out.roll hr3 (by omega) (by omega))
  have HR3 := hid (HR2.out.trans (hr3.mono HR2.out.size))
  have HD3 := hid hd3
  clear hr3 hd3 HC2 HB2 HR2 HD2
  go_wp2_with fail
  subst hLA
  go_loopg [11] k (fun N i wr => ∃ (v : Value) (xs : List Co), i = .int .i64 (N : Int) ∧ xs.length + N = k ∧ Hid (TabSt w w3 wr g (w.heap.size + 2) w3.heap.size n id nm v xs))
  case atStart => exact ⟨.slice none 0 0, [], rfl, by simp, hid ⟨HC3.out, CoSt.start (Nat.le_refl _), by simp, HD3.out, HR3.out, Nat.le_refl _, fun _ _ _ _ => rfl⟩⟩
  case round =>
    obtain ⟨v, xs, rfl, hl, HST⟩ := hrel
    obtain ⟨L0, hL0⟩ := HST.out.own.owns
    obtain ⟨va, vc, rfl⟩ := own_slice hL0
    have HL0 := hid hL0
    have hcz := HC3.out.lt
    clear hL0
    generalize hbs : w3.heap.size = base at *
    have HBS := hid hbs
    clear hbs
    generalize hcl : xs.length = L at *
    have HCL := hid hcl
    clear hcl
    by_cases hp : 0 < gk
    · have s0 := HST.out.box.cell 2 rfl
      have hrz := HST.out.roll.size
      have hlo := HST.out.low
      go_wp2_with fail
      go_region_law (first
        | (go_simp; go_at_call 80; go_must (((with_reducible refine (dice_Column g n _ (diceDrew HST.out.dice) (by omega)).mono ?_); rintro e w5 ⟨⟨xn, xc⟩, u, rfl, hok5, hrd5, hd5, hr5⟩; have HST5 := hid (HST.out.drew.rolled hr5 hd5 (by omega) (by omega)); have HL5 := hid (own_roll (own_drewN HL0.out 1) hr5 (Nat.le_refl _) (by omega)); have HOB := hid (HL0.out.lt); have HOK5 := hid hok5; have HRD5 := hid hrd5; obtain ⟨ua, uc, rfl, -⟩ := hrd5; have s5 := HST5.out.box.cell 2 rfl; have s6 := (HST5.out.box.alloc (.cells #[.string xn, .slice ua xc.length uc] 52)).cell 2 rfl; have f5 := HST5.out.box.frozen 2; have hlo5 := HST5.out.low; have hrz5 := hr5.size; clear hok5 hd5 hr5)))
        | ((refine step_append_form _ rfl (.tmp 32) (.tmp 36) 82 82 rfl base 52 52 i0 (.agg #[.string ⟨#[]⟩, .slice none 0 0]) 2 40 Tryz.underlying82 Tryz.underlying82 hi hz0 hz1 hz2 rfl (by decide) (.slice va L vc) L L0 rfl (HL5.out.alloc _) (some ⟨_, 0, none⟩) 1 1 [.string xn, .slice ua xc.length uc] rfl rfl (fun _ => ⟨_, rfl, cell_two_at _ _ _ (by simp)⟩) (by intro u hu; simp at hu; rcases hu with rfl | rfl <;> rfl) (by omega) (by unfold maxLen; omega) (by omega) (by simp; omega) ?_); intro p7 cap7 w7 hown7 hg7 hat7 hlt7; have hbx7 := (HST5.out.box.alloc (.cells #[.string xn, .slice ua xc.length uc] 52)).grown hg7 (fun e => by have := HOB.out _ e.symm; omega); have q1 := hbx7.cell 2 rfl; have fq1 := hbx7.frozen 2; have HG7 := hid hg7; have HOWN7 := hid hown7; have HAT7 := hid hat7; clear hown7 hg7 hat7 hbx7))
      all_goals
        have HNEW : Hid (RdCl (w5.alloc (.cells #[.string xn, .slice ua xc.length uc] 52)) (Own (w5.alloc (.cells #[.string xn, .slice ua xc.length uc] 52)) base (.slice va L vc)) (.slice ua xc.length uc) xc) := hid ((HRD5.out.keep (fun p hp => World.cell?_alloc_lt _ _ _ hp.2)).more (fun b hb => ⟨by have := hb.1; simp at this; omega, by have := hb.2; simp; omega, fun e => by have := (HOB.out _ e).2; have := hb.1; simp at this; omega⟩))
        have HL6 : Hid ((w5.alloc (.cells #[.string xn, .slice ua xc.length uc] 52)).ownsRow base 52 2 (.slice va L vc) xs.length L0) := hid (by rw [HCL.out]; exact HL5.out.alloc _)
        have HST6 := hid (HST5.out.alloc (by omega) (by omega) (.cells #[.string xn, .slice ua xc.length uc] 52))
        have HST7 := hid (HST6.out.push (x := ⟨xn, xc⟩) (m := L + 1) HOK5.out (by rw [HCL.out]) HL6.out HOWN7.out HG7.out HAT7.out HNEW.out (by omega) (by omega) (by omega))
        clear s0 s5 s6 f5 q1 fq1
        go_wp2
        go_roundg (gk - 1)
        case rel => exact ⟨_, xs ++ [⟨xn, xc⟩], by go_num, by rw [List.length_append, List.length_singleton, HCL.out]; omega, HST7⟩
        case measure => omega
    · obtain rfl : gk = 0 := by omega
      have hbz := HB3.out.lt
      have hb0 : BoxN wr w.heap.size 84 #[.int .i64 0, .string ⟨#[]⟩, .slice none 0 0] := (HST.out.keep w.heap.size (by have := HBS.out; omega) (by omega) (by omega)).trans HB3.out
      have c0 := hb0.cell 0 rfl
      have c1 := hb0.cell 1 rfl
      have c2 := hb0.cell 2 rfl
      have f0 := hb0.frozen 0
      have f1 := hb0.frozen 1
      have f2 := hb0.frozen 2
      have e0 := HST.out.box.cell 0 rfl
      have e1 := HST.out.box.cell 1 rfl
      have e2 := HST.out.box.cell 2 rfl
      clear hb0
      go_wp2
      refine bodyPost_ret (by simp [results, Tryz.results44, go_sem, c0, c1, c2]; rfl) rfl ?_
      have hbw : Below w.heap.size wr (((wr.setCell ⟨w.heap.size, 0, none⟩ (.int .i64 id)).setCell ⟨w.heap.size, 1, none⟩ (.string nm)).setCell ⟨w.heap.size, 2, none⟩ (.slice va L vc)) := by
        have := Below.refl w.heap.size wr
        repeat' (first | (with_reducible exact Below.refl _ _) | (with_reducible assumption) | (with_reducible refine below_drewN ?_) | (with_reducible refine Below.alloc ?_ ?_ _) | (with_reducible refine Below.drew ?_) | (with_reducible refine Below.setCell ?_ ?_ _) | (with_reducible refine Below.trans ?_ (Below.mono (by with_reducible assumption) ?_)) | go_size)
      have hcl : ∀ p : Addr, base ≤ p.block ∧ p.block < wr.heap.size → (((wr.setCell ⟨w.heap.size, 0, none⟩ (.int .i64 id)).setCell ⟨w.heap.size, 1, none⟩ (.string nm)).setCell ⟨w.heap.size, 2, none⟩ (.slice va L vc)).cell? p = wr.cell? p := fun p hp => by
        have := HBS.out
        rw [World.cell?_setCell_other _ _ _ _ (by intro e; subst e; simp at hp; omega), World.cell?_setCell_other _ _ _ _ (by intro e; subst e; simp at hp; omega), World.cell?_setCell_other _ _ _ _ (by intro e; subst e; simp at hp; omega)]
      refine ⟨⟨id, nm, xs⟩, _, rfl, rfl, ⟨HNM.out, (by have := HCL.out; show xs.length ≤ c; omega), n, by omega, HST.out.ok⟩, ?_, HST.out.dice.below hbw hgl, HST.out.roll.trans (Roll.of_below hbw g)⟩
      exact (HST.out.own.read.keep hcl).more fun b hb => ⟨by have := HBS.out; omega, by simpa using hb.2⟩

end Go.Proofs.YtabemneoobbnaaaGreatDoor

namespace Go.Proofs.YtabemneoobbnaaaGreatDoor
open Go.RowKit

def ListOk (T c r : Nat) (ts : List Ta) : Prop := ts.length ≤ T ∧ (∀ t ∈ ts, TabOk c r t ∧ 0 ≤ t.id ∧ t.id ≤ 2 + 3 * (T : Int)) ∧ ts.Pairwise (fun a b => a.id < b.id)
def ListR (w : World) (g T c r : Nat) (e : Ending) (w' : World) : Prop :=
  ∃ (ts : List Ta) (a : Option Addr) (k : Nat), e = .returned (.slice a ts.length k) ∧ RdTa w' (News w w') (.slice a ts.length k) ts ∧ ListOk T c r ts ∧ DiceAt 87 w' g ∧ Roll w.heap.size g w w'

/-- the state of List's loop; the next table has an identifier from 'z' on -/
structure LisSt (w0 w : World) (g c r z : Nat) (v : Value) (ts : List Ta) : Prop where
  own : TaSt w w0.heap.size 84 v ts
  ok : ∀ t ∈ ts, TabOk c r t ∧ 0 ≤ t.id ∧ t.id < (z : Int)
  asc : ts.Pairwise (fun a b => a.id < b.id)
  dice : DiceAt 87 w g
  roll : Roll w0.heap.size g w0 w
section
variable {w0 w w' : World} {g c r z : Nat} {v : Value} {ts : List Ta}
theorem LisSt.rolled (h : LisSt w0 w g c r z v ts) (hr : Roll w.heap.size g w w') (hd : DiceAt 87 w' g) (hg : g < w0.heap.size) : LisSt w0 w' g c r z v ts :=
  ⟨h.own.roll hr (Nat.le_refl _) hg, h.ok, h.asc, hd, h.roll.trans (hr.mono h.roll.size)⟩
theorem LisSt.alloc (h : LisSt w0 w g c r z v ts) (hg : g < w0.heap.size) (O : Obj) : LisSt w0 (w.alloc O) g c r z v ts :=
  h.rolled ((Roll.refl _ _ _).alloc (Nat.le_refl _) O) (h.dice.alloc O) hg
theorem LisSt.more (h : LisSt w0 w g c r z v ts) {z' : Nat} (hz : z ≤ z') : LisSt w0 w g c r z' v ts :=
  ⟨h.own, fun t ht => ⟨(h.ok t ht).1, (h.ok t ht).2.1, by have := (h.ok t ht).2.2; omega⟩, h.asc, h.dice, h.roll⟩
theorem LisSt.push (h : LisSt w0 w g c r z v ts) {x : Ta} (hx : TabOk c r x) (hxi : x.id = (z : Int)) {L : List Value} {u : Value} {p m cap : Nat} (hm : m = ts.length + 1) (hL : w.ownsRow w0.heap.size 84 3 v ts.length L)
    (hown : w'.ownsRow w0.heap.size 84 3 (.slice (some ⟨p, 0, none⟩) m cap) m (L ++ [.int .i64 x.id, .string x.name, u])) (hgr : w.grownBy w' v.ownBlock) (hat : v.ownBlock = some p ∨ p = w.heap.size)
    (hnew : RdCo w (Own w w0.heap.size v) u x.cols) (hg : g < w0.heap.size) : LisSt w0 w' g c r (z + 1) (.slice (some ⟨p, 0, none⟩) m cap) (ts ++ [x]) := by
  have hv : ∀ k, v.ownBlock = some k → w0.heap.size ≤ k := fun k hk => (hL.lt k hk).1
  have hrz := h.roll.size
  have hx' : ∀ k, k < w0.heap.size → w'.heap[k]? = w.heap[k]? := fun k hk => hgr.block k (by omega) (fun e => by have := hv k e.symm; omega)
  refine ⟨h.own.push hL hm hown hgr hat hnew, ?_, ?_, h.dice.keep fun k hk => hx' k (by omega), h.roll.trans ⟨hgr.os, hgr.tape, hgr.output, hgr.size, fun k hk _ => hx' k hk⟩⟩
  · intro y hy
    rcases List.mem_append.1 hy with h1 | h1
    · exact ⟨(h.ok y h1).1, (h.ok y h1).2.1, by have := (h.ok y h1).2.2; omega⟩
    · rw [List.mem_singleton.1 h1]; exact ⟨hx, by omega, by omega⟩
  · refine List.pairwise_append.2 ⟨h.asc, List.pairwise_singleton _ _, fun a ha b hb => ?_⟩
    rw [List.mem_singleton.1 hb, hxi]
    exact (h.ok a ha).2.2
end

set_option maxRecDepth 100000 in
set_option maxHeartbeats 2000000 in
theorem dice_List (g T c r : Nat) (w : World) (hd : DiceAt 87 w g) (hT : T ≤ 1000) (hc : c ≤ 4095) (hr : r ≤ 4095) :
    Calls Tryz.prog 17 #[.pointer (some ⟨g, 0, none⟩), .int .i64 (T : Int), .int .i64 (c : Int), .int .i64 (r : Int)] w (ListR w g T c r) := by
  have hgl := hd.lt
  have HD := hid hd
  obtain ⟨i0, hi, hz0, hz1, hz2⟩ := info_parts info_tab
  clear hd
  go_enter Tryz.func17, Tryz.ntmps17
  generalize hLA : Code.loop _ = LA
  go_wp2_with fail
  with_reducible refine (dice_Pick g _ _ HD.out (by omega) (by omega)).mono ?_
  rintro e w1 ⟨z0, rfl, hz0', hd1, hr1, hs1⟩
  have HR1 := hid hr1
  have HD1 := hid hd1
  clear hr1 hd1
  go_wp2_with fail
  with_reducible refine (dice_Pick g _ _ HD1.out (by omega) (by omega)).mono ?_
  rintro e w2 ⟨k, rfl, hk, hd2, hr2, hs2⟩
  have HR2 := hid (HR1.out.trans (hr2.mono HR1.out.size))
  have HD2 := hid hd2
  clear hr2 hd2 HR1 HD1
  go_wp2_with fail
  subst hLA
  go_loopg [9, 10, 11] k (fun N v i n wr => ∃ (ts : List Ta) (z : Nat), i = .int .i64 (z : Int) ∧ n = .int .i64 (N : Int) ∧ ts.length + N = k ∧ z ≤ 2 + 3 * ts.length ∧ Hid (LisSt w wr g c r z v ts))
  case atStart => exact ⟨[], z0, rfl, rfl, by simp, by simp; omega, hid ⟨TaSt.start HR2.out.size, by simp, List.Pairwise.nil, HD2.out, HR2.out⟩⟩
  case round =>
    obtain ⟨ts, z, rfl, rfl, hl, hz, HST⟩ := hrel
    obtain ⟨L0, hL0⟩ := HST.out.own.owns
    obtain ⟨va, vc, rfl⟩ := own_slice hL0
    have HL0 := hid hL0
    have hrz := HST.out.roll.size
    clear hL0
    generalize hcl : ts.length = L at *
    have HCL := hid hcl
    clear hcl
    by_cases hp : 0 < gk
    · go_wp2_with fail
      with_reducible refine (dice_Table g c r _ _ HST.out.dice (by omega) (by omega)).mono ?_
      rintro e w5 ⟨⟨xi, xn, xc⟩, u, rfl, hxi, hok5, hrd5, hd5, hr5⟩
      obtain rfl : (z : Int) = xi := hxi.symm
      have HST5 := hid (HST.out.rolled hr5 hd5 (by omega))
      have HL5 := hid (own_roll HL0.out hr5 (Nat.le_refl _) (by omega))
      have HOB := hid (HL0.out.lt)
      have HOK5 := hid hok5
      have HRD5 := hid hrd5
      obtain ⟨ua, uc, rfl, hun, hum⟩ : ∃ ua uc, u = .slice ua xc.length uc ∧ xc.length ≤ uc ∧ uc ≤ maxLen := by
        obtain ⟨cv, ⟨ua, uc, rfl, h1, h2, -⟩, -⟩ := hrd5
        exact ⟨ua, uc, rfl, h1, h2⟩
      have hrz5 := hr5.size
      clear hok5 hrd5 hd5 hr5
      go_wp2_with (at_builtin; refine wpList_append_form _ rfl _ _ 35 35 rfl w.heap.size 84 84 i0 (.agg #[.int .i64 0, .string ⟨#[]⟩, .slice none 0 0]) 3 48 Tryz.underlying35 Tryz.underlying35 hi hz0 hz1 hz2 rfl (by decide) (.slice va L vc) L L0 rfl (HL5.out.alloc _) (some ⟨_, 0, none⟩) 1 1 [.int .i64 (z : Int), .string xn, .slice ua xc.length uc] rfl rfl (fun _ => ⟨_, rfl, cell_three_at _ _ _ _ (by simp)⟩) (by intro u hu; simp at hu; rcases hu with rfl | rfl | rfl <;> rfl) (by omega) (by unfold maxLen; omega) (by omega) (by simp; omega) ?_; intro p7 cap7 w7 hown7 hg7 hat7 hlt7; have HG7 := hid hg7; have HOWN7 := hid hown7; have HAT7 := hid hat7; clear hown7 hg7 hat7)
      have HNEW : Hid (RdCo (w5.alloc (.cells #[.int .i64 (z : Int), .string xn, .slice ua xc.length uc] 84)) (Own (w5.alloc (.cells #[.int .i64 (z : Int), .string xn, .slice ua xc.length uc] 84)) w.heap.size (.slice va L vc)) (.slice ua xc.length uc) xc) := hid ((HRD5.out.keep (fun p hp => World.cell?_alloc_lt _ _ _ hp.2)).more (fun b hb => ⟨by have h1 : wr.heap.size ≤ b := hb.1; omega, by have := hb.2; simp; omega, fun e => by have := (HOB.out _ e).2; have h1 : wr.heap.size ≤ b := hb.1; omega⟩))
      have HL6 : Hid ((w5.alloc (.cells #[.int .i64 (z : Int), .string xn, .slice ua xc.length uc] 84)).ownsRow w.heap.size 84 3 (.slice va L vc) ts.length L0) := hid (by rw [HCL.out]; exact HL5.out.alloc _)
      have HST6 := hid (HST5.out.alloc (by omega) (.cells #[.int .i64 (z : Int), .string xn, .slice ua xc.length uc] 84))
      have HST7 := hid (HST6.out.push (x := ⟨z, xn, xc⟩) (m := L + 1) HOK5.out rfl (by rw [HCL.out]) HL6.out HOWN7.out HG7.out HAT7.out HNEW.out (by omega))
      clear HST5 HST6 HNEW HL6 HOWN7 HG7 HAT7
      go_wp2_with fail
      with_reducible refine (dice_Pick g _ _ HST7.out.dice (by omega) (by omega)).mono ?_
      rintro e w8 ⟨q, rfl, hq, hd8, hr8, hs8⟩
      have HST8 := hid (HST7.out.rolled hr8 hd8 (by omega) |>.more (show z + 1 ≤ z + (1 + q) by omega))
      clear hd8 hr8
      go_wp2
      go_roundg (gk - 1)
      case rel => exact ⟨ts ++ [⟨z, xn, xc⟩], z + (1 + q), by go_num, by go_num, by rw [List.length_append, List.length_singleton, HCL.out]; omega, by rw [List.length_append, List.length_singleton, HCL.out]; omega, HST8⟩
      case measure => omega
    · obtain rfl : gk = 0 := by omega
      have HFIN : Hid (ListR w g T c r (.returned (.slice va L vc)) wr) := hid (by
        have h1 := HCL.out
        subst h1
        exact ⟨ts, va, vc, rfl, HST.out.own.read, ⟨by omega, fun t ht => ⟨(HST.out.ok t ht).1, (HST.out.ok t ht).2.1, by have := (HST.out.ok t ht).2.2; omega⟩, HST.out.asc⟩, HST.out.dice, HST.out.roll⟩)
      go_wp2
      go_ret
      exact HFIN.out

end Go.Proofs.YtabemneoobbnaaaGreatDoor
