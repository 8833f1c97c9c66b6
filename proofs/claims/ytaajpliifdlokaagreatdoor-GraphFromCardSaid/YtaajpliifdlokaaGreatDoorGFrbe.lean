/- Contract of the kit's dice: Joined. Contract of the reference's counts (chapter 29). -/
import Derived.Test.YtaajpliifdlokaaGreatDoorGFrbd
import Derived.Test.YtaajpliifdlokaaGreatDoorGFrbc
import Derived.Test.YtaajpliifdlokaaGreatDoorGFrax
set_option linter.unusedVariables false
set_option linter.unusedSimpArgs false
namespace Go.Proofs.YtaajpliifdlokaaGreatDoor
open Go.RowKit
def jcolNames : List ByteArray := [⟨#[105, 100]⟩, ⟨#[107, 101, 121]⟩, ⟨#[118]⟩]
theorem jcolNames_ok : ∀ x ∈ jcolNames, TextOk 10 x := by unfold TextOk; decide +kernel
def jTexts : List ByteArray := [⟨#[97]⟩, ⟨#[98]⟩, ⟨#[99]⟩, ⟨#[97]⟩]
theorem jTexts_ok : ∀ x ∈ jTexts, TextOk 8 x := by unfold TextOk; decide +kernel
theorem jName_ok : TextOk 8 (⟨#[106]⟩ : ByteArray) := by unfold TextOk; decide +kernel
def JColOk (n : Nat) (x : Co) : Prop := x.name ∈ jcolNames ∧ x.cells.length = n ∧ ∀ c ∈ x.cells, CellOk c
def JTabOk (t : Ta) : Prop := t.cols.length ≤ 2 ∧ ∃ n, n ≤ 5 ∧ ∀ x ∈ t.cols, JColOk n x
def JL (ts : List Ta) : Prop := idsT ts = (List.range ts.length).map (fun (i : Nat) => (i : Int) + 1) ∧ ∀ t ∈ ts, JTabOk t
theorem JL.push {ts : List Ta} {x : Ta} (h : JL ts) (hi : x.id = (ts.length : Int) + 1) (hx : JTabOk x) : JL (ts ++ [x]) := by
  obtain ⟨h1, h2⟩ := h
  refine ⟨?_, fun t ht => ?_⟩
  · unfold idsT at h1 ⊢
    rw [List.map_append, h1, List.length_append, List.length_singleton, List.range_succ, List.map_append]
    simp [hi]
  · rcases List.mem_append.1 ht with h3 | h3
    · exact h2 t h3
    · rw [List.mem_singleton.1 h3]; exact hx
theorem jtab_valid {i : Int} {xs : List Co} {n : Nat} (h0 : 0 ≤ i) (h1 : i ≤ 1073741824) (hl : xs.length ≤ 2) (hn : n ≤ 5) (h : ∀ x ∈ xs, JColOk n x) : TabV ⟨i, ⟨#[106]⟩, xs⟩ :=
  ⟨h0, h1, jName_ok.more (by omega), by show xs.length ≤ 64; omega, n, by omega, fun x hx => ⟨(jcolNames_ok _ (h x hx).1).more (by omega), (h x hx).2.1, (h x hx).2.2⟩⟩
def KJoin (w : World) (g : Nat) (e : Ending) (w' : World) : Prop :=
  ∃ (ts : List Ta) (v : Value), e = .returned v ∧ RdTa w' (fun b => w.heap.size ≤ b ∧ b < w'.heap.size) v ts ∧ 2 ≤ ts.length ∧ ts.length ≤ 4 ∧ JL ts ∧ ListV ts ∧ KDice w' g ∧ Roll w.heap.size g w w'
structure JTabSt (w0 ws w : World) (g cb base n : Nat) (id : Int) (nm : ByteArray) (v : Value) (xs : List Co) : Prop where
  box : BoxN w cb 51 #[.int .i64 id, .string nm, v]
  own : CoSt w base 55 v xs
  ok : ∀ x ∈ xs, JColOk n x
  dice : KDice w g
  roll : Roll w0.heap.size g w0 w
  low : base ≤ w.heap.size
  keep : ∀ k, k < base → k ≠ g → k ≠ cb → w.heap[k]? = ws.heap[k]?
section
variable {w0 ws w w' : World} {g cb base n : Nat} {id : Int} {nm : ByteArray} {v : Value} {xs : List Co}
theorem JTabSt.rolled (h : JTabSt w0 ws w g cb base n id nm v xs) (hr : Roll w.heap.size g w w') (hd : KDice w' g) (hg : g < base) (hne : cb ≠ g) : JTabSt w0 ws w' g cb base n id nm v xs :=
  ⟨h.box.roll hr h.box.lt hne, h.own.roll hr (Nat.le_refl _) hg, h.ok, hd, h.roll.trans (hr.mono h.roll.size), Nat.le_trans h.low hr.size, fun k h1 h2 h3 => (hr.block k (Nat.lt_of_lt_of_le h1 h.low) h2).trans (h.keep k h1 h2 h3)⟩
theorem JTabSt.alloc (h : JTabSt w0 ws w g cb base n id nm v xs) (hg : g < base) (hne : cb ≠ g) (O : Obj) : JTabSt w0 ws (w.alloc O) g cb base n id nm v xs :=
  h.rolled ((Roll.refl _ _ _).alloc (Nat.le_refl _) O) (h.dice.alloc O) hg hne
theorem JTabSt.drew (h : JTabSt w0 ws w g cb base n id nm v xs) : JTabSt w0 ws w.drew g cb base n id nm v xs :=
  ⟨h.box, h.own.drewN 1, h.ok, h.dice, h.roll.drewN 1, h.low, h.keep⟩
theorem JTabSt.push (h : JTabSt w0 ws w g cb base n id nm v xs) {x : Co} (hx : JColOk n x) {L : List Value} {u : Value} {p m cap : Nat} (hm : m = xs.length + 1) (hL : w.ownsRow base 55 2 v xs.length L)
    (hown : w'.ownsRow base 55 2 (.slice (some ⟨p, 0, none⟩) m cap) m (L ++ [.string x.name, u])) (hgr : w.grownBy w' v.ownBlock) (hat : v.ownBlock = some p ∨ p = w.heap.size)
    (hnew : RdCl w (Own w base v) u x.cells) (hcb : cb < base) (hc0 : w0.heap.size ≤ cb) (hg : g < cb) :
    JTabSt w0 ws (w'.setCell ⟨cb, 2, none⟩ (.slice (some ⟨p, 0, none⟩) m cap)) g cb base n id nm (.slice (some ⟨p, 0, none⟩) m cap) (xs ++ [x]) := by
  have hv : ∀ k, v.ownBlock = some k → base ≤ k := fun k hk => (hL.lt k hk).1
  have hlo := h.low
  have hx' : ∀ k, k < base → w'.heap[k]? = w.heap[k]? := fun k hk => hgr.block k (by omega) (fun e => by have := hv k e.symm; omega)
  refine ⟨(show BoxN w' cb _ _ from (hx' cb hcb).trans h.box).set 2 _, (h.own.push hL hm hown hgr hat hnew).setCell hcb _, ?_, (h.dice.keep fun k hk => hx' k (by omega)).store hg _, ?_, by have := hgr.size; simp; omega, fun k h1 h2 h3 => (Below.heap_setCell _ _ _ _ h3).trans ((hx' k h1).trans (h.keep k h1 h2 h3))⟩
  · intro y hy
    rcases List.mem_append.1 hy with h1 | h1
    · exact h.ok y h1
    · rw [List.mem_singleton.1 h1]; exact hx
  · exact h.roll.trans ⟨hgr.os, hgr.tape, hgr.output, by have := hgr.size; simpa using this, fun k hk hkg => (Below.heap_setCell _ _ _ _ (by show k ≠ cb; omega)).trans (hx' k (by omega))⟩
end
set_option maxRecDepth 100000 in
set_option maxHeartbeats 8000000 in
theorem kit_Joined (g : Nat) (w : World) (hd : KDice w g) :
  Calls Tryz.prog 10 #[.pointer (some ⟨g, 0, none⟩), .int .i64 4] w (KJoin w g) := by
 have hgl := hd.lt
 have HD := hid hd
 obtain ⟨i0, hi, hz0, hz1, hz2⟩ := info_parts info_tab
 obtain ⟨i1, hj, hy0, hy1, hy2⟩ := info_parts info_col
 obtain ⟨i2, hk, hx0, hx1, hx2⟩ := info_parts info_cell
 clear hd
 go_enter Tryz.func10, Tryz.ntmps10
 generalize hLA : Code.loop _ = LA
 go_wp2_with fail
 with_reducible refine (kit_Next g _ _ HD.out (by omega) (by omega)).mono ?_
 rintro e w1 ⟨k, rfl, hk0, hd1, hr1, -⟩
 have HR1 := hid hr1
 have HD1 := hid hd1
 have hk4 : k ≤ 2 := by omega
 clear hr1 hd1 hk0
 obtain ⟨km, hkm⟩ : ∃ km : Nat, km = 2 + k := ⟨_, rfl⟩
 have hkk : (2 : Int) + (k : Int) = (km : Int) := by omega
 have hkm1 : 2 ≤ km := by omega
 have hkm2 : km ≤ 4 := by omega
 clear hkm
 go_wp2_with fail
 subst hLA
 go_loopg [5, 16] km (fun N v i wr => ∃ ts : List Ta, i = .int .i64 (ts.length : Int) ∧ ts.length + N = km ∧ Hid (JL ts) ∧ Hid (KLs w wr g ts.length v ts))
 case atStart => exact ⟨[], rfl, by simp, hid ⟨rfl, by simp⟩, hid ⟨TaSt.start HR1.out.size, by simp, List.Pairwise.nil, by simp, HD1.out, HR1.out⟩⟩
 case round =>
  clear HR1 HD1
  obtain ⟨ts, rfl, hl, HJ, HST⟩ := hrel
  obtain ⟨wA, rfl⟩ : ∃ W, W = wr := ⟨wr, rfl⟩
  obtain ⟨gA, rfl⟩ : ∃ g, g = gk := ⟨gk, rfl⟩
  obtain ⟨L0, hL0⟩ := HST.out.own.owns
  obtain ⟨va, vc, rfl⟩ := own_slice hL0
  have hrz := HST.out.roll.size
  have hol := fun b hb => (hL0.lt b hb).2
  clear hL0
  generalize hcl : ts.length = L at *
  have HCL := hid hcl
  have HOL : Hid (∀ b, (Value.slice va L vc).ownBlock = some b → b < wA.heap.size) := hid hol
  clear hcl hol
  by_cases hp : 0 < gA
  ·have hLk : (L : Int) < (km : Int) := by omega
   obtain ⟨z', hz'⟩ : ∃ z' : Nat, z' = L + 1 := ⟨_, rfl⟩
   have hzz : (L : Int) + 1 = (z' : Int) := by omega
   have hzl : L < z' := by omega
   have hzu : z' ≤ L + 1 := by omega
   clear hz'
   generalize hLB : Code.loop _ = LB
   go_wp2_with fail
   have hst1 := HST.out.alloc hgl (.cells #[.int .i64 (z' : Int), .string ⟨#[106]⟩, .slice none 0 0] 51)
   have hbx1 := BoxN.new wA #[.int .i64 (z' : Int), .string ⟨#[106]⟩, .slice none 0 0] 51
   have hro1 := (Roll.refl wA.heap.size g wA).alloc (Nat.le_refl _) (.cells #[.int .i64 (z' : Int), .string ⟨#[106]⟩, .slice none 0 0] 51)
   have hs1 : (wA.alloc (.cells #[.int .i64 (z' : Int), .string ⟨#[106]⟩, .slice none 0 0] 51)).heap.size = wA.heap.size + 1 := by simp
   generalize wA.alloc (.cells #[.int .i64 (z' : Int), .string ⟨#[106]⟩, .slice none 0 0] 51) = W1 at *
   with_reducible refine (kit_Next g _ _ hst1.dice (by omega) (by omega)).mono ?_
   rintro e w2 ⟨n0, rfl, hn0, hd2, hr2, hs2⟩
   have HR2 := hid (hro1.trans (hr2.mono (by omega)))
   have HB2 := hid (hbx1.roll hr2 (by omega) (by omega))
   have HD2 := hid hd2
   clear hst1 hbx1 hro1 hd2 hr2
   obtain ⟨n, hn⟩ : ∃ n : Nat, n = 1 + n0 := ⟨_, rfl⟩
   have hnn : (1 : Int) + (n0 : Int) = (n : Int) := by omega
   have hn5 : n ≤ 5 := by omega
   clear hn
   go_wp2_with fail
   with_reducible refine (kit_Next g _ _ HD2.out (by omega) (by omega)).mono ?_
   rintro e w3 ⟨k2, rfl, hk2, hd3, hr3, hs3⟩
   have HR3 := hid (HR2.out.trans (hr3.mono (by omega)))
   have HB3 := hid (HB2.out.roll hr3 (by omega) (by omega))
   have HD3 := hid hd3
   clear HR2 HB2 HD2 hd3 hr3
   obtain ⟨k3, hk3⟩ : ∃ n : Nat, n = 1 + k2 := ⟨_, rfl⟩
   have hkk3 : (1 : Int) + (k2 : Int) = (k3 : Int) := by omega
   have hk32 : k3 ≤ 2 := by omega
   clear hk3
   go_wp2_with fail
   subst hLB
   go_loopg [28] k3 (fun N i wq => ∃ (cv : Value) (xs : List Co), i = .int .i64 (xs.length : Int) ∧ xs.length + N = k3 ∧ Hid (JTabSt wA w3 wq g wA.heap.size w3.heap.size n (z' : Int) ⟨#[106]⟩ cv xs))
   case atStart => exact ⟨.slice none 0 0, [], rfl, by simp, hid ⟨HB3.out, CoSt.start (Nat.le_refl _), by simp, HD3.out, HR3.out, Nat.le_refl _, fun _ _ _ _ => rfl⟩⟩
   case round =>
    obtain ⟨cv, xs, rfl, hl2, HTS⟩ := hrel
    obtain ⟨wB, rfl⟩ : ∃ W, W = wr := ⟨wr, rfl⟩
    obtain ⟨gB, rfl⟩ : ∃ g, g = gk := ⟨gk, rfl⟩
    obtain ⟨L1, hL1⟩ := HTS.out.own.owns
    obtain ⟨ca, cc, rfl⟩ := own_slice hL1
    have hol1 := hL1.lt
    clear hL1
    have hcz := HB3.out.lt
    have hlow := HTS.out.low
    clear HB3 HR3 HD3
    generalize hcl : xs.length = X at *
    have HCX := hid hcl
    clear hcl
    generalize w3.heap.size = base at *
    have HOX : Hid (∀ b, (Value.slice ca X cc).ownBlock = some b → base ≤ b ∧ b < wB.heap.size) := hid hol1
    clear hol1
    by_cases hp2 : 0 < gB
    ·have hXk : (X : Int) < (k3 : Int) := by omega
     generalize hLC : Code.loop _ = LC
     go_wp2_with fail
     have hst := HTS.out.alloc (by omega) (by omega) (.cells #[.string ⟨#[105, 100]⟩, .string ⟨#[107, 101, 121]⟩, .string ⟨#[118]⟩] 9)
     have hnm0 := BoxN.new wB #[.string ⟨#[105, 100]⟩, .string ⟨#[107, 101, 121]⟩, .string ⟨#[118]⟩] 9
     have hnm1 : BoxN (wB.alloc (.cells #[.string ⟨#[105, 100]⟩, .string ⟨#[107, 101, 121]⟩, .string ⟨#[118]⟩] 9)) wB.heap.size 9 (jcolNames.map Value.string).toArray := hnm0
     have hs1 : (wB.alloc (.cells #[.string ⟨#[105, 100]⟩, .string ⟨#[107, 101, 121]⟩, .string ⟨#[118]⟩] 9)).heap.size = wB.heap.size + 1 := by simp
     with_reducible refine (kit_Word g wB.heap.size 3 jcolNames _ hst.dice hnm1 (by omega) rfl (by omega) (by omega)).mono ?_
     clear hnm0 hnm1
     generalize wB.alloc (.cells #[.string ⟨#[105, 100]⟩, .string ⟨#[107, 101, 121]⟩, .string ⟨#[118]⟩] 9) = WB1 at *
     rintro e w4 ⟨nm, rfl, hnm, hd4, hr4, hs4⟩
     have HTS4 := hid (hst.rolled hr4 hd4 (by omega) (by omega))
     have HNM := hid hnm
     clear hst hnm hd4 hr4
     go_wp2_with fail
     have hcbX := BoxN.new w4 #[.string nm, .slice none 0 0] 55
     have hb4 : w4.heap.size = wB.heap.size + 1 := by omega
     rw [hb4] at hcbX
     have hroX := (Roll.refl w4.heap.size g w4).alloc (Nat.le_refl _) (.cells #[.string nm, .slice none 0 0] 55)
     have hdX := HTS4.out.dice.alloc (.cells #[.string nm, .slice none 0 0] 55)
     have hsX : (w4.alloc (.cells #[.string nm, .slice none 0 0] 55)).heap.size = w4.heap.size + 1 := by simp
     generalize w4.alloc (.cells #[.string nm, .slice none 0 0] 55) = W5 at *
     have HCBX := hid hcbX
     have HROX := hid hroX
     have HDX := hid hdX
     clear hcbX hroX hdX
     subst hLC
     go_loopg [35] n (fun N i wz => ∃ (v : Value) (cs : List Cl), i = .int .i64 (cs.length : Int) ∧ cs.length + N = n ∧ Hid (KColSt w4 W5 wz g (wB.heap.size + 1) W5.heap.size n nm v cs))
     case atStart => exact ⟨.slice none 0 0, [], rfl, by simp, hid ⟨HCBX.out, World.ownsRow_nil _ _ _ _, by simp, HDX.out, HROX.out, Nat.le_refl _, fun _ _ _ _ => rfl⟩⟩
     case round =>
      clear HCBX HROX HDX
      obtain ⟨v, cs, rfl, hl3, HCS⟩ := hrel
      obtain ⟨wC, rfl⟩ : ∃ W, W = wr := ⟨wr, rfl⟩
      obtain ⟨gC, rfl⟩ : ∃ g, g = gk := ⟨gk, rfl⟩
      obtain ⟨da, dc, rfl⟩ := own_slice HCS.out.own
      have hlow4 := HTS4.out.low
      generalize hbs3 : W5.heap.size = base3 at *
      generalize hcl3 : cs.length = C at *
      have HCC := hid hcl3
      clear hcl3 hbs3
      have hlow5 := HCS.out.low
      by_cases hp3 : 0 < gC
      ·have hlt3 : (C : Int) < (n : Int) := by omega
       go_wp2_with fail
       have hst := HCS.out.alloc (by omega) (by omega) (.cells #[.string ⟨#[97]⟩, .string ⟨#[98]⟩, .string ⟨#[99]⟩, .string ⟨#[97]⟩] 9)
       have hnm0 := BoxN.new wC #[.string ⟨#[97]⟩, .string ⟨#[98]⟩, .string ⟨#[99]⟩, .string ⟨#[97]⟩] 9
       have hnm1 : BoxN (wC.alloc (.cells #[.string ⟨#[97]⟩, .string ⟨#[98]⟩, .string ⟨#[99]⟩, .string ⟨#[97]⟩] 9)) wC.heap.size 9 (jTexts.map Value.string).toArray := hnm0
       have hs1' : (wC.alloc (.cells #[.string ⟨#[97]⟩, .string ⟨#[98]⟩, .string ⟨#[99]⟩, .string ⟨#[97]⟩] 9)).heap.size = wC.heap.size + 1 := by simp
       with_reducible refine (kit_Word g wC.heap.size 4 jTexts _ hst.dice hnm1 (by omega) rfl (by omega) (by omega)).mono ?_
       clear hnm0 hnm1
       generalize wC.alloc (.cells #[.string ⟨#[97]⟩, .string ⟨#[98]⟩, .string ⟨#[99]⟩, .string ⟨#[97]⟩] 9) = WC1 at *
       rintro e w6 ⟨s, rfl, hs, hd6, hr6, hs6⟩
       have HCS6 := hid (hst.rolled hr6 hd6 (by omega) (by omega))
       have HOK6 := hid (jTexts_ok _ hs)
       clear hst hs hd6 hr6
       go_wp2_with fail
       have hst7 := HCS6.out.alloc (by omega) (by omega) (.cells #[.bool false, .string s] 84)
       have hx7 := BoxN.new w6 #[.bool false, .string s] 84
       have hb6 : w6.heap.size = wC.heap.size + 1 := by omega
       rw [hb6] at hx7
       have hol3 := fun b hb => (HCS.out.own.lt b hb).2
       have hs7 : (w6.alloc (.cells #[.bool false, .string s] 84)).heap.size = w6.heap.size + 1 := by simp
       generalize w6.alloc (.cells #[.bool false, .string s] 84) = W7 at *
       with_reducible refine (kit_Next g _ _ hst7.dice (by omega) (by omega)).mono ?_
       rintro e w8 ⟨m, rfl, hm, hd8, hr8, hs8⟩
       have HCS8 := hid (hst7.rolled hr8 hd8 (by omega) (by omega))
       have HX8 := hid (hx7.roll hr8 (by omega) (by omega))
       have hlow6 : base3 ≤ wC.heap.size + 1 := by omega
       clear hst7 hx7 hd8 hr8 HCS HCS6
       by_cases hm1 : m = 1
       ·subst hm1
        have hne4 : ∀ b, (Value.slice da C dc).ownBlock = some b → b ≠ wC.heap.size + 1 := fun b hb e => by have := hol3 b hb; omega
        have hst9 := (HCS8.out.store (p := ⟨wC.heap.size + 1, 0, none⟩) hlow6 (fun e => hne4 _ e rfl) (by omega) (by omega) (by omega) (.bool true)).store (p := ⟨wC.heap.size + 1, 1, none⟩) hlow6 (fun e => hne4 _ e rfl) (by omega) (by omega) (by omega) (.string ⟨#[]⟩)
        have HX9 := hid ((HX8.out.set 0 (.bool true)).set 1 (.string ⟨#[]⟩))
        have HCS9 := hid hst9
        have fd0 := HX8.out.frozen 0
        have d0 := HX8.out.cell 0 rfl
        have d1 := HX8.out.cell 1 rfl
        have fd1 := HX8.out.frozen 1
        clear hst9
        have s0 := HX9.out.cell 0 rfl
        have s1 := HX9.out.cell 1 rfl
        have s2 := HCS9.out.box.cell 1 rfl
        have HOWN : Hid (((w8.setCell ⟨wC.heap.size + 1, 0, none⟩ (.bool true)).setCell ⟨wC.heap.size + 1, 1, none⟩ (.string ⟨#[]⟩)).ownsRow base3 84 2 (.slice da C dc) C (flatK 2 cs.length (clF cs))) := hid (by have := HCS9.out.own; rw [HCC.out] at this; rw [HCC.out]; exact this)
        have HOB := hid (HCS9.out.own.lt)
        have hlo := HCS9.out.low
        have hcb5 := HCS9.out.box.lt
        go_wp2_with (at_builtin; go_loud (refine wpList_append_form _ rfl _ _ 53 53 rfl base3 84 84 i2 (.agg #[.bool false, .string ⟨#[]⟩]) 2 24 Tryz.underlying53 Tryz.underlying53 hk hx0 hx1 hx2 rfl (by decide) (.slice da C dc) C (flatK 2 cs.length (clF cs)) rfl (HOWN.out.alloc _) (some ⟨_, 0, none⟩) 1 1 [.bool true, .string ⟨#[]⟩] rfl rfl (fun _ => ⟨_, rfl, cell_two_at _ _ _ (by first | rfl | omega | (simp; done) | (simp; omega))⟩) (by intro u hu; simp at hu; rcases hu with rfl | rfl <;> rfl) (by omega) (by unfold maxLen; omega) (by omega) (by simp; omega) ?_; intro p7 cap7 w9 hown7 hg7 hat7 hlt7; have hbx7 := (HCS9.out.box.alloc (.cells #[.bool true, .string ⟨#[]⟩] 84)).grown hg7 (fun e => by have := HOB.out _ e.symm; omega); have q1 := hbx7.cell 1 rfl; have fq1 := hbx7.frozen 1; have HG7 := hid ((World.grownBy_alloc _ (.cells #[.bool true, .string ⟨#[]⟩] 84) _).trans hg7); have HOWN7 := hid hown7; clear hown7 hg7 hat7 hbx7))
        go_wp2
        go_roundg (gC - 1)
        case rel => exact ⟨_, cs ++ [⟨true, ⟨#[]⟩⟩], by rw [List.length_append, List.length_singleton, HCC.out]; go_num, by rw [List.length_append, List.length_singleton, HCC.out]; omega, hid (HCS9.out.push (c := ⟨true, ⟨#[]⟩⟩) cellOk_null (by rw [HCC.out]) HOWN7.out HG7.out (by omega) (by omega) (by omega))⟩
        case measure => omega
       ·have hk1 : ((m : Int) == 1) = false := by simp; omega
        have hk1' : ¬ (m : Int) = 1 := by omega
        have s0 := HX8.out.cell 0 rfl
        have s1 := HX8.out.cell 1 rfl
        have s2 := HCS8.out.box.cell 1 rfl
        have HOWN : Hid (w8.ownsRow base3 84 2 (.slice da C dc) C (flatK 2 cs.length (clF cs))) := hid (by have := HCS8.out.own; rw [HCC.out] at this; rw [HCC.out]; exact this)
        have HOB := hid (HCS8.out.own.lt)
        have hlo := HCS8.out.low
        have hcb5 := HCS8.out.box.lt
        go_wp2_with (at_builtin; go_loud (refine wpList_append_form _ rfl _ _ 53 53 rfl base3 84 84 i2 (.agg #[.bool false, .string ⟨#[]⟩]) 2 24 Tryz.underlying53 Tryz.underlying53 hk hx0 hx1 hx2 rfl (by decide) (.slice da C dc) C (flatK 2 cs.length (clF cs)) rfl (HOWN.out.alloc _) (some ⟨_, 0, none⟩) 1 1 [.bool false, .string s] rfl rfl (fun _ => ⟨_, rfl, cell_two_at _ _ _ (by first | rfl | omega | (simp; done) | (simp; omega))⟩) (by intro u hu; simp at hu; rcases hu with rfl | rfl <;> rfl) (by omega) (by unfold maxLen; omega) (by omega) (by simp; omega) ?_; intro p7 cap7 w9 hown7 hg7 hat7 hlt7; have hbx7 := (HCS8.out.box.alloc (.cells #[.bool false, .string s] 84)).grown hg7 (fun e => by have := HOB.out _ e.symm; omega); have q1 := hbx7.cell 1 rfl; have fq1 := hbx7.frozen 1; have HG7 := hid ((World.grownBy_alloc _ (.cells #[.bool false, .string s] 84) _).trans hg7); have HOWN7 := hid hown7; clear hown7 hg7 hat7 hbx7))
        go_wp2
        go_roundg (gC - 1)
        case rel => exact ⟨_, cs ++ [⟨false, s⟩], by rw [List.length_append, List.length_singleton, HCC.out]; go_num, by rw [List.length_append, List.length_singleton, HCC.out]; omega, hid (HCS8.out.push (c := ⟨false, s⟩) (cellOk_text HOK6.out) (by rw [HCC.out]) HOWN7.out HG7.out (by omega) (by omega) (by omega))⟩
        case measure => omega
      ·obtain rfl : gC = 0 := by omega
       have HTSz := hid (HTS4.out.rolled HCS.out.roll HCS.out.dice (by omega) (by omega))
       obtain ⟨L2, hL2⟩ := HTSz.out.own.owns
       have HL3 := hid hL2
       rw [HCX.out] at hL2
       have HL2 := hid hL2
       have HOB2 := hid hL2.lt
       have hcb := HCS.out.box
       have hRD := rdCl_of_own HCS.out.own
       have HRD5 : Hid (RdCl wC (fun b => base3 ≤ b ∧ b < wC.heap.size) (.slice da C dc) cs) := hid (by first | exact hRD | (rw [HCC.out] at hRD; exact hRD))
       have HOK5 : Hid (JColOk n ⟨nm, cs⟩) := hid ⟨HNM.out, by show cs.length = n; rw [HCC.out]; omega, HCS.out.ok⟩
       have s5 := HTSz.out.box.cell 2 rfl
       have t0 := hcb.cell 0 rfl
       have t1 := hcb.cell 1 rfl
       have hlo5 := HTSz.out.low
       have hcz3 := hcb.lt
       clear hL2 hcb hRD HTS4 HCS
       go_wp2_with (at_builtin; refine wpList_append_form _ rfl _ _ 49 49 rfl base 55 55 i1 (.agg #[.string ⟨#[]⟩, .slice none 0 0]) 2 40 Tryz.underlying49 Tryz.underlying49 hj hy0 hy1 hy2 rfl (by decide) (.slice ca X cc) X L2 rfl (HL2.out.alloc _) (some ⟨_, 0, none⟩) 1 1 [.string nm, .slice da C dc] rfl rfl (fun _ => ⟨_, rfl, cell_two_at _ _ _ (by first | rfl | omega | (simp; done) | (simp; omega))⟩) (by intro u hu; simp at hu; rcases hu with rfl | rfl <;> rfl) (by omega) (by unfold maxLen; omega) (by omega) (by simp; omega) ?_; intro p7 cap7 w7 hown7 hg7 hat7 hlt7; have hbx7 := (HTSz.out.box.alloc (.cells #[.string nm, .slice da C dc] 55)).grown hg7 (fun e => by have := HOB2.out _ e.symm; omega); have q1 := hbx7.cell 2 rfl; have fq1 := hbx7.frozen 2; have HG7 := hid hg7; have HOWN7 := hid hown7; have HAT7 := hid hat7; clear hown7 hg7 hat7 hbx7)
       have HNEW : Hid (RdCl (wC.alloc (.cells #[.string nm, .slice da C dc] 55)) (Own (wC.alloc (.cells #[.string nm, .slice da C dc] 55)) base (.slice ca X cc)) (.slice da C dc) cs) := hid ((HRD5.out.keep (fun p hp => World.cell?_alloc_lt _ _ _ hp.2)).more (fun b hb => ⟨by have := hb.1; omega, by have := hb.2; simp; omega, fun e => by have := (HOX.out _ e).2; have := hb.1; omega⟩))
       have HL6 : Hid ((wC.alloc (.cells #[.string nm, .slice da C dc] 55)).ownsRow base 55 2 (.slice ca X cc) xs.length L2) := hid (HL3.out.alloc _)
       have HST6 := hid (HTSz.out.alloc (by omega) (by omega) (.cells #[.string nm, .slice da C dc] 55))
       have HST7 := hid (HST6.out.push (x := ⟨nm, cs⟩) (m := X + 1) HOK5.out (by rw [HCX.out]) HL6.out HOWN7.out HG7.out HAT7.out HNEW.out (by omega) (by omega) (by omega))
       clear s5 t0 t1
       go_wp2
       go_roundg (gB - 1)
       case rel => exact ⟨_, xs ++ [⟨nm, cs⟩], by rw [List.length_append, List.length_singleton, HCX.out]; go_num, by rw [List.length_append, List.length_singleton, HCX.out]; omega, HST7⟩
       case measure => omega
    ·obtain rfl : gB = 0 := by omega
     have HSTz := hid (HST.out.rolled HTS.out.roll HTS.out.dice hgl)
     obtain ⟨L9, hL9⟩ := HSTz.out.own.owns
     rw [HCL.out] at hL9
     have hrd := HTS.out.own.read
     have hbb := HTS.out.box
     have hrb := HTS.out.roll.size
     have HRY : Hid (RdCo wB (fun b => wA.heap.size ≤ b ∧ b < wB.heap.size) (.slice ca X cc) xs) := hid (hrd.more fun b hb => ⟨by have := hb.1; omega, hb.2⟩)
     have HTV : Hid (TabV ⟨(z' : Int), ⟨#[106]⟩, xs⟩) := hid (jtab_valid (by omega) (by omega) (by rw [HCX.out]; omega) hn5 HTS.out.ok)
     have HJO : Hid (JTabOk ⟨(z' : Int), ⟨#[106]⟩, xs⟩) := hid ⟨by show xs.length ≤ 2; rw [HCX.out]; omega, n, hn5, HTS.out.ok⟩
     have y0 := hbb.cell 0 rfl
     have y1 := hbb.cell 1 rfl
     have y2 := hbb.cell 2 rfl
     have HOB := hid (hL9.lt)
     have HOWA := hid (hL9.alloc (.cells #[.int .i64 (z' : Int), .string ⟨#[106]⟩, .slice ca X cc] 51))
     have HNB := hid (BoxN.new wB #[.int .i64 (z' : Int), .string ⟨#[106]⟩, .slice ca X cc] 51)
     clear hL9 hrd hbb HTS HST
     go_wp2_with (at_builtin; refine wpList_append_form _ rfl _ _ 25 25 rfl w.heap.size 51 51 i0 (.agg #[.int .i64 0, .string ⟨#[]⟩, .slice none 0 0]) 3 48 Tryz.underlying25 Tryz.underlying25 hi hz0 hz1 hz2 rfl (by decide) (.slice va L vc) L L9 rfl HOWA.out (some ⟨_, 0, none⟩) 1 1 [.int .i64 (z' : Int), .string ⟨#[106]⟩, .slice ca X cc] rfl rfl (fun _ => ⟨_, rfl, World.news_of_block HNB.out⟩) (by intro u hu; simp at hu; rcases hu with rfl | rfl | rfl <;> rfl) (by omega) (by unfold maxLen; omega) (by omega) (by simp; omega) ?_; intro p7 cap7 w7 hown7 hg7 hat7 hlt7; have HG7 := hid hg7; have HOWN7 := hid hown7; have HAT7 := hid hat7; clear hown7 hg7 hat7)
     have HNEW : Hid (RdCo (wB.alloc (.cells #[.int .i64 (z' : Int), .string ⟨#[106]⟩, .slice ca X cc] 51)) (Own (wB.alloc (.cells #[.int .i64 (z' : Int), .string ⟨#[106]⟩, .slice ca X cc] 51)) w.heap.size (.slice va L vc)) (.slice ca X cc) xs) := hid ((HRY.out.keep (fun p hp => World.cell?_alloc_lt _ _ _ hp.2)).more (fun b hb => ⟨by have h1 := hb.1; omega, by have := hb.2; simp; omega, fun e => by have := HOL.out _ e; have h1 := hb.1; omega⟩))
     have HL6 : Hid ((wB.alloc (.cells #[.int .i64 (z' : Int), .string ⟨#[106]⟩, .slice ca X cc] 51)).ownsRow w.heap.size 51 3 (.slice va L vc) ts.length L9) := hid (by rw [HCL.out]; exact HOWA.out)
     have HST6 := hid (HSTz.out.alloc hgl (.cells #[.int .i64 (z' : Int), .string ⟨#[106]⟩, .slice ca X cc] 51))
     have HST7 := hid (HST6.out.push (x := ⟨z', ⟨#[106]⟩, xs⟩) (m := L + 1) HTV.out rfl hzl (by rw [HCL.out]) HL6.out HOWN7.out HG7.out HAT7.out HNEW.out hgl (by show xs.length ≤ 3; rw [HCX.out]; omega))
     clear HSTz HST6 HNEW HL6 HOWN7 HG7 HAT7 y0 y1 y2
     go_wp2
     go_roundg (gA - 1)
     case rel =>
      refine ⟨ts ++ [⟨z', ⟨#[106]⟩, xs⟩], by rw [List.length_append, List.length_singleton, HCL.out]; go_num, by rw [List.length_append, List.length_singleton, HCL.out]; omega, hid (HJ.out.push (by rw [HCL.out]; show (z' : Int) = _; omega) HJO.out), ?_⟩
      rw [List.length_append, List.length_singleton, HCL.out, show L + 1 = z' by omega]
      rw [show L + 1 = z' by omega] at HST7
      exact HST7
     case measure => omega
  ·obtain rfl : gA = 0 := by omega
   go_wp2_with fail
   go_ret
   have h1 := HCL.out
   exact ⟨ts, _, rfl, HST.out.own.read, by omega, by omega, HJ.out, ⟨by omega, fun t ht => (HST.out.ok t ht).1, HST.out.asc⟩, HST.out.dice, HST.out.roll⟩
end Go.Proofs.YtaajpliifdlokaaGreatDoor

namespace Go.Proofs.YtaajpliifdlokaaGreatDoor
open Go.RowKit
set_option maxRecDepth 100000 in
set_option maxHeartbeats 2000000 in
theorem ref29_counts (nm : ByteArray) (cs : List Cl) (v : Value) (B : Nat) (w : World) (hv : RdCl w (· < B) v cs) (hB : B ≤ w.heap.size) (hl : cs.length ≤ 4096) (hsz : ∀ c ∈ cs, c.text.size ≤ maxLen) :
  Calls Tryz.prog 96 #[.agg #[.string nm, v]] w (GivesC w (textsL cs)) := by
 obtain ⟨a, k, rfl, hk, hm, hrd⟩ := hv
 have HRD := hid hrd
 have HTK := hid (fun q h => @texts_take cs q h)
 have HTL := hid (fun q => texts_take_len cs q)
 have HSZ := hid (fun q (h : q < cs.length) => hsz _ (getD_mem h Cl.z))
 have HFIN : Hid (textsL (cs.take cs.length) = textsL cs) := hid (by rw [List.take_length])
 clear hrd hsz
 generalize textsL cs = F at *
 generalize hcl : cs.length = L at *
 have HCL := hid hcl
 clear hcl
 unfold maxLen at hm
 have HX0 := hid ((BoxN.new w #[.string nm, .slice a L k] 55).alloc (.map #[] 0))
 have hm1 := MapC.made (w.alloc (.cells #[.string nm, .slice a L k] 55))
 rw [World.size_alloc] at hm1
 have HM1 := hid hm1
 have HB1 := hid (((Below.refl w.heap.size w).alloc (Nat.le_refl _) (.cells #[.string nm, .slice a L k] 55)).alloc (by simp) (.map #[] 0))
 have hzw := HB1.out.size
 clear hm1
 have hmm := @run_makeMap Tryz.prog
 go_enter Tryz.func96, Tryz.ntmps96
 generalize hLA : Code.loop _ = LA
 go_wp2_with fail
 generalize (w.alloc (.cells #[.string nm, .slice a L k] 55)).alloc (.map #[] 0) = W1 at *
 subst hLA
 go_loopg [10] L (fun N i wr => ∃ q : Nat, q + N = L ∧ i = .int .i64 (q : Int) ∧ Hid (Below w.heap.size w wr) ∧ Hid (MapC wr (w.heap.size + 1) (textsL (cs.take q))))
 case atStart => exact ⟨0, by omega, rfl, HB1, hid (by simpa [textsL] using HM1.out)⟩
 case round =>
  obtain ⟨q, hq, rfl, HST, HM⟩ := hrel
  by_cases hp : 0 < gk
  ·obtain ⟨b, o, rfl, hb, hcell⟩ := HRD.out (by omega)
   have hb' : b < B := hb
   have hbw : b < w.heap.size := by omega
   have hwz := HST.out.size
   have k0 : wr.cell? ⟨b, o + q * 2, none⟩ = some (.bool (cs.getD q Cl.z).null) := (HST.out.cell (p := ⟨b, o + q * 2, none⟩) hbw).trans (hcell q (by omega) 0 (by omega))
   have k1 : wr.cell? ⟨b, o + q * 2 + 1, none⟩ = some (.string (cs.getD q Cl.z).text) := (HST.out.cell (p := ⟨b, o + q * 2 + 1, none⟩) hbw).trans (hcell q (by omega) 1 (by omega))
   have HNX := hid (HTK.out q (by have := HCL.out; omega))
   have hql := HTL.out q
   have hsz := HSZ.out q (by omega)
   generalize textsL (cs.take q) = acc at *
   clear hcell
   generalize cs.getD q Cl.z = c at *
   obtain ⟨nl, s⟩ := c
   simp only at k0 k1 hsz
   have hml := HM.out.lt
   have HM3 := hid (HM.out.later (w' := wr.alloc (.cells #[.bool nl, .string s] 84)) (Below.heap_alloc _ _ _ hml))
   have HB3 : Hid (Below w.heap.size w (wr.alloc (.cells #[.bool nl, .string s] 84))) := hid (HST.out.alloc hwz _)
   cases nl
   ·have hmi := HM3.out.mapI
    have hlk := hmi.look hsz
    rw [cntF_get] at hlk
    have HKEY := hid (key_str hsz)
    obtain ⟨D, hown, hno, hz0⟩ := HM3.out
    have hcl := cntT_le acc s
    have hsl := setOfL_len acc
    have HPUT : Hid (∀ W, W.ownsMap Tryz.prog 9 (plainElem (H := Unit) Tryz.prog 3) (w.heap.size + 1) ((setOfL acc).length + 1) (D.put (keyU s) (.lit (.int .i64 ((cntT acc s + 1 : Nat) : Int)))) → MapC W (w.heap.size + 1) (acc ++ [s])) := hid (fun W hW => by
     have h1 := size_step (x := s) (d := .lit (.int .i64 ((cntT acc s + 1 : Nat) : Int))) (hown.tidy law_strU) hno hz0
     have h2 := hno.put s (cntT acc s + 1)
     rw [cntF_snoc] at h2
     exact ⟨_, own_exact hW h1, h2, h1⟩)
    have HOWN := hid hown
    clear hown hno hz0 hmi
    generalize (setOfL acc).length = sl0 at *
    generalize cntT acc s = ct at *
    go_wp2_with (at_mapUpdate; refine wpList_mapUpdate_own _ rfl _ _ _ 129 rfl 9 3 law_strU Tryz.underlying129 _ (w.heap.size + 1) sl0 D rfl HOWN.out (by unfold maxLen; omega) _ _ _ rfl rfl HKEY.out _ [] (plainElem_int (H := Unit) Tryz.underlying3 (wf_oneR (by omega))) ?_; intro w9 hown9 hgrow9; have HOWN9 := hid hown9; have HGR9 := hid hgrow9; clear hown9 hgrow9)
    have HB9 := hid (HB3.out.grown HGR9.out (by have := HB3.out.size; omega) (fun k hk => by have := Option.some.inj hk; omega))
    go_roundg (gk - 1)
    case rel => exact ⟨q + 1, by omega, by go_num, HB9, hid (by rw [HNX.out]; exact HPUT.out _ HOWN9.out)⟩
    case measure => omega
   ·go_wp2_with fail
    go_roundg (gk - 1)
    case rel => exact ⟨q + 1, by omega, by go_num, HB3, hid (by rw [HNX.out]; exact HM3.out)⟩
    case measure => omega
  ·obtain rfl : gk = 0 := by omega
   obtain rfl : q = L := by omega
   rw [HFIN.out] at HM
   have HG : Hid (GivesC w F (.returned (.map (some (w.heap.size + 1)))) wr) := hid ⟨_, rfl, by omega, HM.out, HST.out⟩
   go_wp2
   go_ret
   exact HG.out
end Go.Proofs.YtaajpliifdlokaaGreatDoor
