/- Contract of the kit's Derived. -/
import Derived.Test.YthblaeleogdfpaaGreatDoorCTobb
set_option linter.unusedVariables false
set_option linter.unusedSimpArgs false
namespace Go.Proofs.YthblaeleogdfpaaGreatDoor
open Go.RowKit
def TabW (nm : ByteArray) (xs : List Co) : Prop := TextOk 1024 nm ∧ xs.length ≤ 64 ∧ ∃ n, n ≤ 4096 ∧ ColsV xs n
theorem TabW.tab {nm : ByteArray} {xs : List Co} (h : TabW nm xs) {id : Int} (h0 : 0 ≤ id) (h1 : id ≤ 1073741824) : TabV ⟨id, nm, xs⟩ := ⟨h0, h1, h.1, h.2.1, h.2.2⟩
theorem TabV.w {t : Ta} (h : TabV t) : TabW t.name t.cols := ⟨h.2.2.1, h.2.2.2.1, h.2.2.2.2⟩
def TabsAt (g : Nat) (w : World) : Prop := ∃ w0, Tabs w0 ∧ w0.heap.size ≤ g ∧ Below w0.heap.size w0 w
theorem TabsAt.tabs {g : Nat} {w : World} (h : TabsAt g w) : Tabs w := by
 obtain ⟨w0, h1, _, h3⟩ := h
 exact h1.below h3
theorem TabsAt.roll {g B : Nat} {w w' : World} (h : TabsAt g w) (hr : Roll B g w w') (hB : g ≤ B) : TabsAt g w' := by
 obtain ⟨w0, h1, h2, h3⟩ := h
 exact ⟨w0, h1, h2, h3.trans (hr.below h2 (by omega))⟩
def DerL (x0 xs : List Co) : Prop := ∀ P : List Co → Prop, P x0 → (∀ (ys : List Co) (o : Po), P ys → canL ys.length o = true → Few3 ys.length o → P (doL ys o)) → P xs
theorem DerL.refl (x0 : List Co) : DerL x0 x0 := fun _ h _ => h
theorem DerL.step {x0 xs : List Co} (h : DerL x0 xs) {o : Po} (hc : canL xs.length o = true) (ho : Few3 xs.length o) : DerL x0 (doL xs o) := fun P h0 hs => hs xs o (h P h0 hs) hc ho
def TabD (nm : ByteArray) (x0 xs : List Co) : Prop := TabW nm xs ∧ DerL x0 xs
def KDerS (x0 : List Co) (nm : ByteArray) (w : World) (g : Nat) (id : Int) (e : Ending) (w' : World) : Prop :=
  ∃ (xs : List Co) (v : Value), e = .returned (.agg #[.int .i64 id, .string nm, v]) ∧ TabW nm xs ∧ DerL x0 xs ∧ CoSt w' w.heap.size 30 v xs ∧ KDice w' g ∧ Roll w.heap.size g w w'
def KDer (w : World) (g : Nat) (id : Int) (e : Ending) (w' : World) : Prop :=
  ∃ (nm : ByteArray) (xs : List Co) (v : Value), e = .returned (.agg #[.int .i64 id, .string nm, v]) ∧ TabW nm xs ∧ CoSt w' w.heap.size 30 v xs ∧ KDice w' g ∧ Roll w.heap.size g w w'
def RunQ (w : World) (tid : Int) (nm : ByteArray) (x0 : List Co) (e : Ending) (w' : World) : Prop :=
  ∃ (xi : Int) (xn : ByteArray) (xa : Option Addr) (xm xc : Nat) (ei : Int), e = .returned (.tuple #[.agg #[.int .i64 xi, .string xn, .slice xa xm xc], .int .i64 ei]) ∧ Below w.heap.size w w' ∧ (ei = 0 → xi = tid ∧ xn = nm ∧ ∃ ys : List Co, ys.length = xm ∧ TabD nm x0 ys ∧ RdCo w' (fun b => w.heap.size ≤ b ∧ b < w'.heap.size) (.slice xa xm xc) ys)
theorem runQ {w : World} {t : Ta} {o : Po} {e : Ending} {w' : World} {x0 : List Co} (ht : TabV t) (hD : DerL x0 t.cols) (ho : Few3 t.cols.length o) (h : RunP w t o e w') : RunQ w t.id t.name x0 e w' := by
 rcases h with ⟨hc, v, rfl, hco, hb⟩ | ⟨hc, rfl, hb⟩
 ·have hrd := hco.read
  obtain ⟨L, hL⟩ := hco.owns
  obtain ⟨a, c, rfl⟩ := own_slice hL
  exact ⟨_, _, a, _, c, 0, rfl, hb, fun _ => ⟨rfl, rfl, _, rfl, ⟨(do_valid ht hc).w, hD.step hc ho⟩, hrd⟩⟩
 ·exact ⟨_, _, _, _, _, 24, rfl, hb, fun h => absurd h (by omega)⟩
def DerX (w wr wx : World) (g db : Nat) (tid : Int) (nm : ByteArray) (x0 : List Co) (xi : Int) (xn : ByteArray) (xa : Option Addr) (xm xc : Nat) (ei : Int) : Prop :=
  Roll wr.heap.size g wr wx ∧ KDice wx g ∧ BoxN wx db 24 #[.int .i64 xi, .string xn, .slice xa xm xc] ∧
    (ei = 0 → xi = tid ∧ xn = nm ∧ ∃ ys : List Co, ys.length = xm ∧ TabD nm x0 ys ∧ RdCo wx (fun b => b < wx.heap.size ∧ b ≠ g ∧ b ≠ w.heap.size ∧ b ≠ w.heap.size + 1) (.slice xa xm xc) ys)
structure DerSt (w0 w : World) (g : Nat) (tid : Int) (nm : ByteArray) (x0 xs : List Co) (v : Value) : Prop where
  box : BoxN w w0.heap.size 24 #[.int .i64 tid, .string nm, v]
  res : BoxN w (w0.heap.size + 1) 24 #[.int .i64 0, .string ⟨#[]⟩, .slice none 0 0]
  tab : TabW nm xs
  der : DerL x0 xs
  rd : RdCo w (fun b => b < w.heap.size ∧ b ≠ g ∧ b ≠ w0.heap.size ∧ b ≠ w0.heap.size + 1) v xs
  dice : KDice w g
  roll : Roll w0.heap.size g w0 w
  low : w0.heap.size + 2 ≤ w.heap.size
section
variable {w0 w w' : World} {g : Nat} {tid : Int} {nm : ByteArray} {x0 xs : List Co} {v : Value}
theorem DerSt.rolled (h : DerSt w0 w g tid nm x0 xs v) (hr : Roll w.heap.size g w w') (hd : KDice w' g) (hg : g < w0.heap.size) : DerSt w0 w' g tid nm x0 xs v :=
 ⟨h.box.roll hr h.box.lt (by omega), h.res.roll hr h.res.lt (by omega), h.tab, h.der, (h.rd.keep fun p hp => hr.cell hp.1 hp.2.1).more fun b hb => ⟨Nat.lt_of_lt_of_le hb.1 hr.size, hb.2⟩, hd, h.roll.trans (hr.mono h.roll.size), Nat.le_trans h.low hr.size⟩
theorem DerSt.put (h : DerSt w0 w g tid nm x0 xs v) (hg : g < w0.heap.size) {ys : List Co} {u : Value} (ht : TabD nm x0 ys) (hr : RdCo w (fun b => b < w.heap.size ∧ b ≠ g ∧ b ≠ w0.heap.size ∧ b ≠ w0.heap.size + 1) u ys) :
  DerSt w0 (((w.setCell ⟨w0.heap.size, 0, none⟩ (.int .i64 tid)).setCell ⟨w0.heap.size, 1, none⟩ (.string nm)).setCell ⟨w0.heap.size, 2, none⟩ u) g tid nm x0 ys u := by
 have hc : ∀ p : Addr, p.block ≠ w0.heap.size → (((w.setCell ⟨w0.heap.size, 0, none⟩ (.int .i64 tid)).setCell ⟨w0.heap.size, 1, none⟩ (.string nm)).setCell ⟨w0.heap.size, 2, none⟩ u).cell? p = w.cell? p := fun p hp => by
  rw [World.cell?_setCell_other _ _ _ _ (by intro e; subst e; exact hp rfl), World.cell?_setCell_other _ _ _ _ (by intro e; subst e; exact hp rfl), World.cell?_setCell_other _ _ _ _ (by intro e; subst e; exact hp rfl)]
 refine ⟨((h.box.set 0 _).set 1 _).set 2 _, ((h.res.other (by show w0.heap.size ≠ w0.heap.size + 1; omega) _).other (by show w0.heap.size ≠ w0.heap.size + 1; omega) _).other (by show w0.heap.size ≠ w0.heap.size + 1; omega) _, ht.1, ht.2, (hr.keep fun p hp => hc p hp.2.2.1).more fun b hb => ⟨by simpa using hb.1, hb.2⟩, ((h.dice.store (by show g < w0.heap.size; exact hg) _).store (by show g < w0.heap.size; exact hg) _).store (by show g < w0.heap.size; exact hg) _, h.roll.trans ⟨rfl, rfl, rfl, by simp, fun k hk _ => ?_⟩, by simpa using h.low⟩
 rw [Below.heap_setCell _ _ _ _ (show k ≠ w0.heap.size by omega), Below.heap_setCell _ _ _ _ (show k ≠ w0.heap.size by omega), Below.heap_setCell _ _ _ _ (show k ≠ w0.heap.size by omega)]
end
set_option maxRecDepth 100000 in
set_option maxHeartbeats 8000000 in
theorem kit_DerivedS (g : Nat) (t : Ta) (v : Value) (id : Int) (w : World) (hd : KDice w g) (hT : TabsAt g w) (ht : TabV t) (hv : RdCo w (fun b => b < w.heap.size ∧ b ≠ g) v t.cols) :
  Calls Tryz.prog 11 #[.pointer (some ⟨g, 0, none⟩), .agg #[.int .i64 t.id, .string t.name, v], .int .i64 id] w (KDerS t.cols t.name w g id) := by
 have hgl := hd.lt
 have HD := hid hd
 have HT := hid hT
 have hid0 := ht.1
 have hid1 := ht.2.1
 have HTW := hid ht.w
 have HV := hid hv
 obtain ⟨cv, ⟨va, vc, rfl, -, -, -⟩, -⟩ := hv
 clear hd hT ht
 obtain ⟨tid, nm0, xs0⟩ := t
 simp only at *
 generalize hL0 : xs0.length = L0 at *
 have HL0 := hid hL0
 clear hL0
 have HX0 := hid ((BoxN.new w #[.int .i64 tid, .string nm0, .slice va L0 vc] 24).alloc (.cells #[.int .i64 0, .string ⟨#[]⟩, .slice none 0 0] 24))
 have hy0 := BoxN.new (w.alloc (.cells #[.int .i64 tid, .string nm0, .slice va L0 vc] 24)) #[.int .i64 0, .string ⟨#[]⟩, .slice none 0 0] 24
 rw [World.size_alloc] at hy0
 have hd0 := (HD.out.alloc (.cells #[.int .i64 tid, .string nm0, .slice va L0 vc] 24)).alloc (.cells #[.int .i64 0, .string ⟨#[]⟩, .slice none 0 0] 24)
 have hr0 := ((Roll.refl w.heap.size g w).alloc (Nat.le_refl _) (.cells #[.int .i64 tid, .string nm0, .slice va L0 vc] 24)).alloc (by simp) (.cells #[.int .i64 0, .string ⟨#[]⟩, .slice none 0 0] 24)
 have hz0' : ((w.alloc (.cells #[.int .i64 tid, .string nm0, .slice va L0 vc] 24)).alloc (.cells #[.int .i64 0, .string ⟨#[]⟩, .slice none 0 0] 24)).heap.size = w.heap.size + 2 := by simp
 have HST0 : Hid (DerSt w ((w.alloc (.cells #[.int .i64 tid, .string nm0, .slice va L0 vc] 24)).alloc (.cells #[.int .i64 0, .string ⟨#[]⟩, .slice none 0 0] 24)) g tid nm0 xs0 xs0 (.slice va L0 vc)) := hid ⟨HX0.out, hy0, HTW.out, DerL.refl _, (HV.out.keep fun p hp => hr0.cell hp.1 hp.2).more fun b hb => ⟨by rw [hz0']; have := hb.1; omega, hb.2, by have := hb.1; omega, by have := hb.1; omega⟩, hd0, hr0, by omega⟩
 clear hy0 hd0 hr0
 go_enter Tryz.func11, Tryz.ntmps11
 go_wp2_with fail
 generalize (w.alloc (.cells #[.int .i64 tid, .string nm0, .slice va L0 vc] 24)).alloc (.cells #[.int .i64 0, .string ⟨#[]⟩, .slice none 0 0] 24) = W0 at *
 with_reducible refine (kit_Next g _ _ HST0.out.dice (by omega) (by omega)).mono ?_
 rintro e w2 ⟨m, rfl, hm, hd2, hr2, hs2⟩
 have HST2 := hid (HST0.out.rolled hr2 hd2 hgl)
 have hm3 : m < 3 := by omega
 clear hd2 hr2 hs2 hm HX0 HST0
 go_wp2_with fail
 go_loopg [7] m (fun N i wr => i = .int .i64 (N : Int) ∧ N ≤ 2 ∧ ∃ (nm : ByteArray) (xs : List Co) (y : Value), Hid (nm = nm0) ∧ Hid (DerSt w wr g tid nm xs0 xs y))
 case atStart => exact ⟨rfl, by omega, nm0, xs0, _, hid rfl, HST2⟩
 case round =>
  obtain ⟨rfl, hgk2, nm, xs, y, HNM, HST⟩ := hrel
  have hlo := HST.out.low
  obtain ⟨cy, ⟨va, vc, rfl, -, -, -⟩, -⟩ := HST.out.rd
  have HTV := hid (HST.out.tab.tab hid0 hid1)
  have HTA := hid (HT.out.roll HST.out.roll (by omega))
  by_cases hp : 0 < gk
  ·have hpg : decide ((0 : Int) < (gk : Int)) = true := decide_eq_true (by omega)
   have HOPC := hid (fun W (hW : Roll wr.heap.size g wr W) (hd : KDice W g) => kit_Op g ⟨tid, nm, xs⟩ (.slice va xs.length vc) W hd HTV.out ((HST.out.rd.keep fun p hp => hW.cell hp.1 hp.2.1).more fun b hb => ⟨Nat.lt_of_lt_of_le hb.1 hW.size, hb.2.1⟩))
   have HRUN := hid (fun W (hW : Roll wr.heap.size g wr W) (hd : KDice W g) (o : Po) (u : Value) (lb : Nat) (hu : Rd W W.heap.size u o.cols.length (intF o.cols)) (hl : BoxN W lb 56 #[.int .i64 o.kind, .int .i64 o.col, .string o.text, u]) (h1 : o.text.size ≤ 1024) (h2 : Few3 xs.length o) => (ref38_Run1 ⟨tid, nm, xs⟩ (.slice va xs.length vc) u o W.heap.size lb W HTV.out ((HST.out.rd.keep fun p hp => hW.cell hp.1 hp.2.1).more fun b hb => Nat.lt_of_lt_of_le hb.1 hW.size) hu (Nat.le_refl _) (HTA.out.roll hW (by omega)).tabs hl (by omega) (by have := h2.1; omega)).mono fun e w' h => runQ HTV.out HST.out.der h2 h)
   generalize hL : xs.length = L at *
   have HL := hid hL
   clear hL
   have HTT : Hid (∀ w', Roll wr.heap.size g wr w' → w'.cell? ⟨w.heap.size, 0, none⟩ = some (.int .i64 tid) ∧ w'.cell? ⟨w.heap.size, 1, none⟩ = some (.string nm) ∧ w'.cell? ⟨w.heap.size, 2, none⟩ = some (.slice va L vc)) := hid (fun w' h => ⟨(HST.out.box.roll h HST.out.box.lt (by omega)).cell 0 rfl, (HST.out.box.roll h HST.out.box.lt (by omega)).cell 1 rfl, (HST.out.box.roll h HST.out.box.lt (by omega)).cell 2 rfl⟩)
   have HWd : Hid (Roll wr.heap.size g wr wr.drew) := hid ((Roll.refl _ _ _).drewN 1)
   have DWd : Hid (KDice wr.drew g) := hid HST.out.dice.drew
   go_upto_region 4 with fail
   go_cut [8, 9] from 12 to 27 (fun s8 s9 wx => ∃ (db : Nat) (xi : Int) (xn : ByteArray) (xa : Option Addr) (xm xc : Nat) (ei : Int), s8 = .pointer (some ⟨db, 0, none⟩) ∧ s9 = .int .i64 ei ∧ Hid (DerX w wr wx g db tid nm xs0 xi xn xa xm xc ei))
   case first =>
    refine wp_region_before (st := 11) (T := fun w' => w'.cell? ⟨w.heap.size, 0, none⟩ = some (.int .i64 tid) ∧ w'.cell? ⟨w.heap.size, 1, none⟩ = some (.string nm) ∧ w'.cell? ⟨w.heap.size, 2, none⟩ = some (.slice va L vc)) (S := fun _ => True) (by kernel_rfl) ?_
    generalize wr.drew = Wd at *
    refine wpAnyB_takeT (i := 0) (oi := ?o0_1) (v := ?v0_1) ?hi0_1 (by kernel_rfl) (by kernel_rfl) (by kernel_rfl) (by kernel_rfl) ?hq0_1 ?hy0_1 (fun _ => trivial) (HTT.out _ HWd.out) ?r0_1
    case hi0_1 => (simp only [List.getElem?_toArray, List.getElem?_cons_zero, List.getElem?_cons_succ]; exact rfl)
    case hq0_1 => exact fun _ _ _ h => h
    case hy0_1 =>
     refine Or.inl ⟨by rfl, fun w' hSw => ?_⟩
     (try dsimp only at hSw)
     (first | (go_simp; done) | (go_simp; with_reducible rfl))
    try simp only [Act.put, List.setIfInBounds_toArray, List.set]
    refine wpAnyB_takeT (i := 1) (oi := ?o1_2) (v := ?v1_2) ?hi1_2 (by kernel_rfl) (by kernel_rfl) (by kernel_rfl) (by kernel_rfl) ?hq1_2 ?hy1_2 (fun _ => trivial) (HTT.out _ HWd.out) ?r1_2
    case hi1_2 => (simp only [List.getElem?_toArray, List.getElem?_cons_zero, List.getElem?_cons_succ]; exact rfl)
    case hq1_2 => exact fun _ _ _ h => h
    case hy1_2 =>
     refine Or.inl ⟨by rfl, fun w' hSw => ?_⟩
     (try dsimp only at hSw)
     (first | (go_simp; done) | (go_simp; with_reducible rfl))
    try simp only [Act.put, List.setIfInBounds_toArray, List.set]
    refine wpAnyB_takeT (i := 2) (oi := ?o2_3) (v := ?v2_3) ?hi2_3 (by kernel_rfl) (by kernel_rfl) (by kernel_rfl) (by kernel_rfl) ?hq2_3 ?hy2_3 (fun _ => trivial) (HTT.out _ HWd.out) ?r2_3
    case hi2_3 => (simp only [List.getElem?_toArray, List.getElem?_cons_zero, List.getElem?_cons_succ]; exact rfl)
    case hq2_3 => exact fun _ _ _ h => h
    case hy2_3 =>
     refine Or.inl ⟨by rfl, fun w' hSw => ?_⟩
     (try dsimp only at hSw)
     (first | (go_simp; done) | (go_simp; with_reducible rfl))
    try simp only [Act.put, List.setIfInBounds_toArray, List.set]
    refine wpAnyB_ready (rs := [3, 9]) (by kernel_rfl) (by simp) ?_
    refine AllReadyB.cons rfl (fun K hK => ?_) ?_
    ·go_simp
     with_reducible refine (HOPC.out Wd HWd.out DWd.out).mono ?_
     rintro e w4 ⟨o, u, rfl, hot, hoc, hou, hod, hor⟩
     have H4 := hid (HWd.out.trans (hor.mono HWd.out.size))
     have D4 := hid hod
     have HOU := hid hou
     clear hor hod hou
     unfold Po.val
     refine hK.out _ _ (fun _ => trivial) (HTT.out _ H4.out) ?_
     try simp only [Act.put, List.setIfInBounds_toArray, List.set]
     clear hK K
     refine wpAnyB_ready (rs := [4, 9]) (by kernel_rfl) (by simp) ?_
     refine AllReadyB.cons rfl (fun K hK => ?_) ?_
     ·go_simp
      have H5 := hid (H4.out.alloc H4.out.size (.cells #[.int .i64 o.kind, .int .i64 o.col, .string o.text, u] 56))
      have D5 := hid (D4.out.alloc (.cells #[.int .i64 o.kind, .int .i64 o.col, .string o.text, u] 56))
      have HLB := hid (BoxN.new w4 #[.int .i64 o.kind, .int .i64 o.col, .string o.text, u] 56)
      have HOU := hid ((HOU.out.below ((Below.refl _ _).alloc (Nat.le_refl _) (.cells #[.int .i64 o.kind, .int .i64 o.col, .string o.text, u] 56)) (Nat.le_refl _)).more (show w4.heap.size ≤ (w4.alloc (.cells #[.int .i64 o.kind, .int .i64 o.col, .string o.text, u] 56)).heap.size by simp))
      refine hK.out _ _ (fun _ => trivial) (HTT.out _ H5.out) ?_
      try simp only [Act.put, List.setIfInBounds_toArray, List.set]
      clear hK K
      generalize w4.alloc (.cells #[.int .i64 o.kind, .int .i64 o.col, .string o.text, u] 56) = W5 at *
      refine wpAnyB_ready (rs := [5, 9]) (by kernel_rfl) (by simp) ?_
      refine AllReadyB.cons rfl (fun K hK => ?_) ?_
      ·go_simp
       with_reducible refine (HRUN.out W5 H5.out D5.out o u w4.heap.size HOU.out HLB.out hot hoc).mono ?_
       rintro e w6 ⟨xi, xn, xa, xm, xc, ei, rfl, hb6, hok6⟩
       have H6 := hid (H5.out.trans ((Roll.of_below hb6 g).mono H5.out.size))
       have D6 := hid (D5.out.below hb6 D5.out.lt)
       have HOK : Hid (ei = 0 → xi = tid ∧ xn = nm ∧ ∃ ys : List Co, ys.length = xm ∧ TabD nm xs0 ys ∧ RdCo w6 (fun b => W5.heap.size ≤ b ∧ b < w6.heap.size) (.slice xa xm xc) ys) := hid hok6
       have hw5 : wr.heap.size ≤ W5.heap.size := H5.out.size
       have hw6 := hb6.size
       clear hb6 hok6
       refine hK.out _ _ (fun _ => trivial) (HTT.out _ H6.out) ?_
       try simp only [Act.put, List.setIfInBounds_toArray, List.set]
       clear hK K
       refine wpAnyB_takeT (i := 6) (oi := ?o6_4) (v := ?v6_4) ?hi6_4 (by kernel_rfl) (by kernel_rfl) (by kernel_rfl) (by kernel_rfl) ?hq6_4 ?hy6_4 (fun _ => trivial) (HTT.out _ H6.out) ?r6_4
       case hi6_4 => (simp only [List.getElem?_toArray, List.getElem?_cons_zero, List.getElem?_cons_succ]; exact rfl)
       case hq6_4 => exact fun _ _ _ h => h
       case hy6_4 =>
        refine Or.inl ⟨by rfl, fun w' hSw => ?_⟩
        (try dsimp only at hSw)
        (first | (go_simp; done) | (go_simp; with_reducible rfl))
       try simp only [Act.put, List.setIfInBounds_toArray, List.set]
       refine wpAnyB_takeT (i := 7) (oi := ?o7_5) (v := ?v7_5) ?hi7_5 (by kernel_rfl) (by kernel_rfl) (by kernel_rfl) (by kernel_rfl) ?hq7_5 ?hy7_5 (fun _ => trivial) (HTT.out _ H6.out) ?r7_5
       case hi7_5 => (simp only [List.getElem?_toArray, List.getElem?_cons_zero, List.getElem?_cons_succ]; exact rfl)
       case hq7_5 => exact fun _ _ _ h => h
       case hy7_5 =>
        refine Or.inl ⟨by rfl, fun w' hSw => ?_⟩
        (try dsimp only at hSw)
        (first | (go_simp; done) | (go_simp; with_reducible rfl))
       try simp only [Act.put, List.setIfInBounds_toArray, List.set]
       refine wpAnyB_takeT (i := 8) (oi := ?o8_6) (v := ?v8_6) ?hi8_6 (by kernel_rfl) (by kernel_rfl) (by kernel_rfl) (by kernel_rfl) ?hq8_6 ?hy8_6 (fun _ => trivial) (HTT.out _ H6.out) ?r8_6
       case hi8_6 => (simp only [List.getElem?_toArray, List.getElem?_cons_zero, List.getElem?_cons_succ]; exact rfl)
       case hq8_6 => exact fun _ _ _ h => h
       case hy8_6 =>
        refine Or.inl ⟨by rfl, fun w' hSw => ?_⟩
        (try dsimp only at hSw)
        (first | (go_simp; done) | (go_simp; with_reducible rfl))
       try simp only [Act.put, List.setIfInBounds_toArray, List.set]
       refine wpAnyB_ready (rs := [9]) (by kernel_rfl) (by simp) ?_
       refine AllReadyB.cons rfl (fun K hK => ?_) AllReadyB.nil
       have HAK : Hid (∀ p : Addr, p.block < w6.heap.size → (w6.alloc (.cells #[.int .i64 0, .string ⟨#[]⟩, .slice none 0 0] 24)).cell? p = w6.cell? p) := hid (fun p hp => World.cell?_alloc_lt _ _ _ hp)
       go_simp
       have HA := hid (H6.out.alloc H6.out.size (.cells #[.int .i64 0, .string ⟨#[]⟩, .slice none 0 0] 24))
       have DA := hid (D6.out.alloc (.cells #[.int .i64 0, .string ⟨#[]⟩, .slice none 0 0] 24))
       have HDB := hid (BoxN.new w6 #[.int .i64 0, .string ⟨#[]⟩, .slice none 0 0] 24)
       have hdz : wr.heap.size ≤ w6.heap.size := H6.out.size
       refine hK.out _ _ (fun _ => trivial) (HTT.out _ HA.out) ?_
       try simp only [Act.put, List.setIfInBounds_toArray, List.set]
       clear hK K
       have hdl : w6.heap.size < (w6.alloc (.cells #[.int .i64 0, .string ⟨#[]⟩, .slice none 0 0] 24)).heap.size := by simp
       generalize w6.alloc (.cells #[.int .i64 0, .string ⟨#[]⟩, .slice none 0 0] 24) = WA at *
       refine wpAnyB_ready (rs := [10]) (by kernel_rfl) (by simp) ?_
       refine AllReadyB.cons rfl (fun K hK => ?_) AllReadyB.nil
       have d0 := HDB.out.cell 0 rfl
       have df0 := HDB.out.frozen 0
       have d1 := HDB.out.cell 1 rfl
       have df1 := HDB.out.frozen 1
       have d2 := HDB.out.cell 2 rfl
       have df2 := HDB.out.frozen 2
       go_simp
       have HS : Hid (Roll wr.heap.size g wr (((WA.setCell ⟨w6.heap.size, 0, none⟩ (.int .i64 xi)).setCell ⟨w6.heap.size, 1, none⟩ (.string xn)).setCell ⟨w6.heap.size, 2, none⟩ (.slice xa xm xc))) := hid (HA.out.trans ⟨rfl, rfl, rfl, by simp, fun k hk _ => by rw [Below.heap_setCell _ _ _ _ (show k ≠ w6.heap.size by omega), Below.heap_setCell _ _ _ _ (show k ≠ w6.heap.size by omega), Below.heap_setCell _ _ _ _ (show k ≠ w6.heap.size by omega)]⟩)
       have DS : Hid (KDice (((WA.setCell ⟨w6.heap.size, 0, none⟩ (.int .i64 xi)).setCell ⟨w6.heap.size, 1, none⟩ (.string xn)).setCell ⟨w6.heap.size, 2, none⟩ (.slice xa xm xc)) g) := hid (((DA.out.store (p := ⟨w6.heap.size, 0, none⟩) (by show g < w6.heap.size; omega) _).store (p := ⟨w6.heap.size, 1, none⟩) (by show g < w6.heap.size; omega) _).store (p := ⟨w6.heap.size, 2, none⟩) (by show g < w6.heap.size; omega) _)
       refine hK.out _ _ (fun _ => trivial) (HTT.out _ HS.out) ?_
       try simp only [Act.put, List.setIfInBounds_toArray, List.set]
       clear hK K
       refine wpAnyB_ready (rs := [11]) (by kernel_rfl) (by simp) ?_
       refine AllReadyB.cons rfl (fun K hK => ?_) AllReadyB.nil
       go_simp
       refine hK.out _ _ (fun _ => trivial) (HTT.out _ HS.out) ?_
       try simp only [Act.put, List.setIfInBounds_toArray, List.set]
       clear hK K
       refine wpAnyB_done (by kernel_rfl) ?_ _
       have HDF := hid (((HDB.out.set 0 (.int .i64 xi)).set 1 (.string xn)).set 2 (.slice xa xm xc))
       have HWF : Hid (∀ p : Addr, p.block ≠ w6.heap.size → (((WA.setCell ⟨w6.heap.size, 0, none⟩ (.int .i64 xi)).setCell ⟨w6.heap.size, 1, none⟩ (.string xn)).setCell ⟨w6.heap.size, 2, none⟩ (.slice xa xm xc)).cell? p = WA.cell? p) := hid (fun p hp => by rw [World.cell?_setCell_other _ _ _ _ (by intro e; subst e; exact hp rfl), World.cell?_setCell_other _ _ _ _ (by intro e; subst e; exact hp rfl), World.cell?_setCell_other _ _ _ _ (by intro e; subst e; exact hp rfl)])
       have HZF : Hid (WA.heap.size = (((WA.setCell ⟨w6.heap.size, 0, none⟩ (.int .i64 xi)).setCell ⟨w6.heap.size, 1, none⟩ (.string xn)).setCell ⟨w6.heap.size, 2, none⟩ (.slice xa xm xc)).heap.size) := hid (by simp)
       have HOF : Hid (ei = 0 → xi = tid ∧ xn = nm ∧ ∃ ys : List Co, ys.length = xm ∧ TabD nm xs0 ys ∧ RdCo (((WA.setCell ⟨w6.heap.size, 0, none⟩ (.int .i64 xi)).setCell ⟨w6.heap.size, 1, none⟩ (.string xn)).setCell ⟨w6.heap.size, 2, none⟩ (.slice xa xm xc)) (fun b => b < (((WA.setCell ⟨w6.heap.size, 0, none⟩ (.int .i64 xi)).setCell ⟨w6.heap.size, 1, none⟩ (.string xn)).setCell ⟨w6.heap.size, 2, none⟩ (.slice xa xm xc)).heap.size ∧ b ≠ g ∧ b ≠ w.heap.size ∧ b ≠ w.heap.size + 1) (.slice xa xm xc) ys) := hid (fun h => by
        obtain ⟨e1, e2, ys, e3, e4, e5⟩ := HOK.out h
        refine ⟨e1, e2, ys, e3, e4, (e5.keep fun p hp => ?_).more fun b hb => ⟨?_, by have := hb.1; omega, by have := hb.1; omega, by have := hb.1; omega⟩⟩
        ·rw [HWF.out p (by have h1 := hp.1; have h2 := hp.2; omega)]
         exact HAK.out p hp.2
        ·have h1 := hb.2; have h2 := HZF.out; omega)
       clear d0 d1 d2 df0 df1 df2
       go_wp2_with fail
       go_meet
       exact ⟨w6.heap.size, xi, xn, xa, xm, xc, ei, rfl, rfl, hid ⟨HS.out, DS.out, HDF.out, HOF.out⟩⟩
      refine AllReadyB.cons rfl (fun K hK => ?_) ?_
      ·have HOU := hid ((HOU.out.below ((Below.refl _ _).alloc (Nat.le_refl _) (.cells #[.int .i64 0, .string ⟨#[]⟩, .slice none 0 0] 24)) (Nat.le_refl _)).more (show W5.heap.size ≤ (W5.alloc (.cells #[.int .i64 0, .string ⟨#[]⟩, .slice none 0 0] 24)).heap.size by simp))
       have HLB := hid (HLB.out.alloc (.cells #[.int .i64 0, .string ⟨#[]⟩, .slice none 0 0] 24))
       go_simp
       have HA := hid (H5.out.alloc H5.out.size (.cells #[.int .i64 0, .string ⟨#[]⟩, .slice none 0 0] 24))
       have DA := hid (D5.out.alloc (.cells #[.int .i64 0, .string ⟨#[]⟩, .slice none 0 0] 24))
       have HDB := hid (BoxN.new W5 #[.int .i64 0, .string ⟨#[]⟩, .slice none 0 0] 24)
       have hdz : wr.heap.size ≤ W5.heap.size := H5.out.size
       refine hK.out _ _ (fun _ => trivial) (HTT.out _ HA.out) ?_
       try simp only [Act.put, List.setIfInBounds_toArray, List.set]
       clear hK K
       have hdl : W5.heap.size < (W5.alloc (.cells #[.int .i64 0, .string ⟨#[]⟩, .slice none 0 0] 24)).heap.size := by simp
       generalize W5.alloc (.cells #[.int .i64 0, .string ⟨#[]⟩, .slice none 0 0] 24) = WA at *
       refine wpAnyB_ready (rs := [5]) (by kernel_rfl) (by simp) ?_
       refine AllReadyB.cons rfl (fun K hK => ?_) AllReadyB.nil
       go_simp
       with_reducible refine (HRUN.out WA HA.out DA.out o u w4.heap.size HOU.out HLB.out hot hoc).mono ?_
       rintro e w6 ⟨xi, xn, xa, xm, xc, ei, rfl, hb6, hok6⟩
       have H6 := hid (HA.out.trans ((Roll.of_below hb6 g).mono HA.out.size))
       have D6 := hid (DA.out.below hb6 DA.out.lt)
       have HDB := hid (HDB.out.below hb6 hdl)
       have HOK : Hid (ei = 0 → xi = tid ∧ xn = nm ∧ ∃ ys : List Co, ys.length = xm ∧ TabD nm xs0 ys ∧ RdCo w6 (fun b => WA.heap.size ≤ b ∧ b < w6.heap.size) (.slice xa xm xc) ys) := hid hok6
       have hw5 : wr.heap.size ≤ WA.heap.size := HA.out.size
       have hw6 := hb6.size
       clear hb6 hok6
       refine hK.out _ _ (fun _ => trivial) (HTT.out _ H6.out) ?_
       try simp only [Act.put, List.setIfInBounds_toArray, List.set]
       clear hK K
       refine wpAnyB_takeT (i := 6) (oi := ?o6_7) (v := ?v6_7) ?hi6_7 (by kernel_rfl) (by kernel_rfl) (by kernel_rfl) (by kernel_rfl) ?hq6_7 ?hy6_7 (fun _ => trivial) (HTT.out _ H6.out) ?r6_7
       case hi6_7 => (simp only [List.getElem?_toArray, List.getElem?_cons_zero, List.getElem?_cons_succ]; exact rfl)
       case hq6_7 => exact fun _ _ _ h => h
       case hy6_7 =>
        refine Or.inl ⟨by rfl, fun w' hSw => ?_⟩
        (try dsimp only at hSw)
        (first | (go_simp; done) | (go_simp; with_reducible rfl))
       try simp only [Act.put, List.setIfInBounds_toArray, List.set]
       refine wpAnyB_takeT (i := 7) (oi := ?o7_8) (v := ?v7_8) ?hi7_8 (by kernel_rfl) (by kernel_rfl) (by kernel_rfl) (by kernel_rfl) ?hq7_8 ?hy7_8 (fun _ => trivial) (HTT.out _ H6.out) ?r7_8
       case hi7_8 => (simp only [List.getElem?_toArray, List.getElem?_cons_zero, List.getElem?_cons_succ]; exact rfl)
       case hq7_8 => exact fun _ _ _ h => h
       case hy7_8 =>
        refine Or.inl ⟨by rfl, fun w' hSw => ?_⟩
        (try dsimp only at hSw)
        (first | (go_simp; done) | (go_simp; with_reducible rfl))
       try simp only [Act.put, List.setIfInBounds_toArray, List.set]
       refine wpAnyB_takeT (i := 8) (oi := ?o8_9) (v := ?v8_9) ?hi8_9 (by kernel_rfl) (by kernel_rfl) (by kernel_rfl) (by kernel_rfl) ?hq8_9 ?hy8_9 (fun _ => trivial) (HTT.out _ H6.out) ?r8_9
       case hi8_9 => (simp only [List.getElem?_toArray, List.getElem?_cons_zero, List.getElem?_cons_succ]; exact rfl)
       case hq8_9 => exact fun _ _ _ h => h
       case hy8_9 =>
        refine Or.inl ⟨by rfl, fun w' hSw => ?_⟩
        (try dsimp only at hSw)
        (first | (go_simp; done) | (go_simp; with_reducible rfl))
       try simp only [Act.put, List.setIfInBounds_toArray, List.set]
       refine wpAnyB_ready (rs := [10]) (by kernel_rfl) (by simp) ?_
       refine AllReadyB.cons rfl (fun K hK => ?_) AllReadyB.nil
       have d0 := HDB.out.cell 0 rfl
       have df0 := HDB.out.frozen 0
       have d1 := HDB.out.cell 1 rfl
       have df1 := HDB.out.frozen 1
       have d2 := HDB.out.cell 2 rfl
       have df2 := HDB.out.frozen 2
       go_simp
       have HS : Hid (Roll wr.heap.size g wr (((w6.setCell ⟨W5.heap.size, 0, none⟩ (.int .i64 xi)).setCell ⟨W5.heap.size, 1, none⟩ (.string xn)).setCell ⟨W5.heap.size, 2, none⟩ (.slice xa xm xc))) := hid (H6.out.trans ⟨rfl, rfl, rfl, by simp, fun k hk _ => by rw [Below.heap_setCell _ _ _ _ (show k ≠ W5.heap.size by omega), Below.heap_setCell _ _ _ _ (show k ≠ W5.heap.size by omega), Below.heap_setCell _ _ _ _ (show k ≠ W5.heap.size by omega)]⟩)
       have DS : Hid (KDice (((w6.setCell ⟨W5.heap.size, 0, none⟩ (.int .i64 xi)).setCell ⟨W5.heap.size, 1, none⟩ (.string xn)).setCell ⟨W5.heap.size, 2, none⟩ (.slice xa xm xc)) g) := hid (((D6.out.store (p := ⟨W5.heap.size, 0, none⟩) (by show g < W5.heap.size; omega) _).store (p := ⟨W5.heap.size, 1, none⟩) (by show g < W5.heap.size; omega) _).store (p := ⟨W5.heap.size, 2, none⟩) (by show g < W5.heap.size; omega) _)
       refine hK.out _ _ (fun _ => trivial) (HTT.out _ HS.out) ?_
       try simp only [Act.put, List.setIfInBounds_toArray, List.set]
       clear hK K
       refine wpAnyB_ready (rs := [11]) (by kernel_rfl) (by simp) ?_
       refine AllReadyB.cons rfl (fun K hK => ?_) AllReadyB.nil
       go_simp
       refine hK.out _ _ (fun _ => trivial) (HTT.out _ HS.out) ?_
       try simp only [Act.put, List.setIfInBounds_toArray, List.set]
       clear hK K
       refine wpAnyB_done (by kernel_rfl) ?_ _
       have HDF := hid (((HDB.out.set 0 (.int .i64 xi)).set 1 (.string xn)).set 2 (.slice xa xm xc))
       have HWF : Hid (∀ p : Addr, p.block ≠ W5.heap.size → (((w6.setCell ⟨W5.heap.size, 0, none⟩ (.int .i64 xi)).setCell ⟨W5.heap.size, 1, none⟩ (.string xn)).setCell ⟨W5.heap.size, 2, none⟩ (.slice xa xm xc)).cell? p = w6.cell? p) := hid (fun p hp => by rw [World.cell?_setCell_other _ _ _ _ (by intro e; subst e; exact hp rfl), World.cell?_setCell_other _ _ _ _ (by intro e; subst e; exact hp rfl), World.cell?_setCell_other _ _ _ _ (by intro e; subst e; exact hp rfl)])
       have HZF : Hid (w6.heap.size = (((w6.setCell ⟨W5.heap.size, 0, none⟩ (.int .i64 xi)).setCell ⟨W5.heap.size, 1, none⟩ (.string xn)).setCell ⟨W5.heap.size, 2, none⟩ (.slice xa xm xc)).heap.size) := hid (by simp)
       have HOF : Hid (ei = 0 → xi = tid ∧ xn = nm ∧ ∃ ys : List Co, ys.length = xm ∧ TabD nm xs0 ys ∧ RdCo (((w6.setCell ⟨W5.heap.size, 0, none⟩ (.int .i64 xi)).setCell ⟨W5.heap.size, 1, none⟩ (.string xn)).setCell ⟨W5.heap.size, 2, none⟩ (.slice xa xm xc)) (fun b => b < (((w6.setCell ⟨W5.heap.size, 0, none⟩ (.int .i64 xi)).setCell ⟨W5.heap.size, 1, none⟩ (.string xn)).setCell ⟨W5.heap.size, 2, none⟩ (.slice xa xm xc)).heap.size ∧ b ≠ g ∧ b ≠ w.heap.size ∧ b ≠ w.heap.size + 1) (.slice xa xm xc) ys) := hid (fun h => by
        obtain ⟨e1, e2, ys, e3, e4, e5⟩ := HOK.out h
        refine ⟨e1, e2, ys, e3, e4, (e5.keep fun p hp => ?_).more fun b hb => ⟨?_, by have := hb.1; omega, by have := hb.1; omega, by have := hb.1; omega⟩⟩
        ·rw [HWF.out p (by have h1 := hp.1; have h2 := hp.2; omega)]
        ·have h1 := hb.2; have h2 := HZF.out; omega)
       clear d0 d1 d2 df0 df1 df2
       go_wp2_with fail
       go_meet
       exact ⟨W5.heap.size, xi, xn, xa, xm, xc, ei, rfl, rfl, hid ⟨HS.out, DS.out, HDF.out, HOF.out⟩⟩
      exact AllReadyB.nil
     refine AllReadyB.cons rfl (fun K hK => ?_) ?_
     ·have HOU := hid ((HOU.out.below ((Below.refl _ _).alloc (Nat.le_refl _) (.cells #[.int .i64 0, .string ⟨#[]⟩, .slice none 0 0] 24)) (Nat.le_refl _)).more (show w4.heap.size ≤ (w4.alloc (.cells #[.int .i64 0, .string ⟨#[]⟩, .slice none 0 0] 24)).heap.size by simp))
      go_simp
      have HA := hid (H4.out.alloc H4.out.size (.cells #[.int .i64 0, .string ⟨#[]⟩, .slice none 0 0] 24))
      have DA := hid (D4.out.alloc (.cells #[.int .i64 0, .string ⟨#[]⟩, .slice none 0 0] 24))
      have HDB := hid (BoxN.new w4 #[.int .i64 0, .string ⟨#[]⟩, .slice none 0 0] 24)
      have hdz : wr.heap.size ≤ w4.heap.size := H4.out.size
      refine hK.out _ _ (fun _ => trivial) (HTT.out _ HA.out) ?_
      try simp only [Act.put, List.setIfInBounds_toArray, List.set]
      clear hK K
      have hdl : w4.heap.size < (w4.alloc (.cells #[.int .i64 0, .string ⟨#[]⟩, .slice none 0 0] 24)).heap.size := by simp
      generalize w4.alloc (.cells #[.int .i64 0, .string ⟨#[]⟩, .slice none 0 0] 24) = WA at *
      refine wpAnyB_ready (rs := [4]) (by kernel_rfl) (by simp) ?_
      refine AllReadyB.cons rfl (fun K hK => ?_) AllReadyB.nil
      go_simp
      have H5 := hid (HA.out.alloc HA.out.size (.cells #[.int .i64 o.kind, .int .i64 o.col, .string o.text, u] 56))
      have D5 := hid (DA.out.alloc (.cells #[.int .i64 o.kind, .int .i64 o.col, .string o.text, u] 56))
      have HLB := hid (BoxN.new WA #[.int .i64 o.kind, .int .i64 o.col, .string o.text, u] 56)
      have HOU := hid ((HOU.out.below ((Below.refl _ _).alloc (Nat.le_refl _) (.cells #[.int .i64 o.kind, .int .i64 o.col, .string o.text, u] 56)) (Nat.le_refl _)).more (show WA.heap.size ≤ (WA.alloc (.cells #[.int .i64 o.kind, .int .i64 o.col, .string o.text, u] 56)).heap.size by simp))
      have HDB := hid (HDB.out.alloc (.cells #[.int .i64 o.kind, .int .i64 o.col, .string o.text, u] 56))
      have hdl : w4.heap.size < (WA.alloc (.cells #[.int .i64 o.kind, .int .i64 o.col, .string o.text, u] 56)).heap.size := Nat.lt_of_lt_of_le hdl (by simp)
      refine hK.out _ _ (fun _ => trivial) (HTT.out _ H5.out) ?_
      try simp only [Act.put, List.setIfInBounds_toArray, List.set]
      clear hK K
      generalize WA.alloc (.cells #[.int .i64 o.kind, .int .i64 o.col, .string o.text, u] 56) = W5 at *
      refine wpAnyB_ready (rs := [5]) (by kernel_rfl) (by simp) ?_
      refine AllReadyB.cons rfl (fun K hK => ?_) AllReadyB.nil
      go_simp
      with_reducible refine (HRUN.out W5 H5.out D5.out o u WA.heap.size HOU.out HLB.out hot hoc).mono ?_
      rintro e w6 ⟨xi, xn, xa, xm, xc, ei, rfl, hb6, hok6⟩
      have H6 := hid (H5.out.trans ((Roll.of_below hb6 g).mono H5.out.size))
      have D6 := hid (D5.out.below hb6 D5.out.lt)
      have HDB := hid (HDB.out.below hb6 hdl)
      have HOK : Hid (ei = 0 → xi = tid ∧ xn = nm ∧ ∃ ys : List Co, ys.length = xm ∧ TabD nm xs0 ys ∧ RdCo w6 (fun b => W5.heap.size ≤ b ∧ b < w6.heap.size) (.slice xa xm xc) ys) := hid hok6
      have hw5 : wr.heap.size ≤ W5.heap.size := H5.out.size
      have hw6 := hb6.size
      clear hb6 hok6
      refine hK.out _ _ (fun _ => trivial) (HTT.out _ H6.out) ?_
      try simp only [Act.put, List.setIfInBounds_toArray, List.set]
      clear hK K
      refine wpAnyB_takeT (i := 6) (oi := ?o6_10) (v := ?v6_10) ?hi6_10 (by kernel_rfl) (by kernel_rfl) (by kernel_rfl) (by kernel_rfl) ?hq6_10 ?hy6_10 (fun _ => trivial) (HTT.out _ H6.out) ?r6_10
      case hi6_10 => (simp only [List.getElem?_toArray, List.getElem?_cons_zero, List.getElem?_cons_succ]; exact rfl)
      case hq6_10 => exact fun _ _ _ h => h
      case hy6_10 =>
       refine Or.inl ⟨by rfl, fun w' hSw => ?_⟩
       (try dsimp only at hSw)
       (first | (go_simp; done) | (go_simp; with_reducible rfl))
      try simp only [Act.put, List.setIfInBounds_toArray, List.set]
      refine wpAnyB_takeT (i := 7) (oi := ?o7_11) (v := ?v7_11) ?hi7_11 (by kernel_rfl) (by kernel_rfl) (by kernel_rfl) (by kernel_rfl) ?hq7_11 ?hy7_11 (fun _ => trivial) (HTT.out _ H6.out) ?r7_11
      case hi7_11 => (simp only [List.getElem?_toArray, List.getElem?_cons_zero, List.getElem?_cons_succ]; exact rfl)
      case hq7_11 => exact fun _ _ _ h => h
      case hy7_11 =>
       refine Or.inl ⟨by rfl, fun w' hSw => ?_⟩
       (try dsimp only at hSw)
       (first | (go_simp; done) | (go_simp; with_reducible rfl))
      try simp only [Act.put, List.setIfInBounds_toArray, List.set]
      refine wpAnyB_takeT (i := 8) (oi := ?o8_12) (v := ?v8_12) ?hi8_12 (by kernel_rfl) (by kernel_rfl) (by kernel_rfl) (by kernel_rfl) ?hq8_12 ?hy8_12 (fun _ => trivial) (HTT.out _ H6.out) ?r8_12
      case hi8_12 => (simp only [List.getElem?_toArray, List.getElem?_cons_zero, List.getElem?_cons_succ]; exact rfl)
      case hq8_12 => exact fun _ _ _ h => h
      case hy8_12 =>
       refine Or.inl ⟨by rfl, fun w' hSw => ?_⟩
       (try dsimp only at hSw)
       (first | (go_simp; done) | (go_simp; with_reducible rfl))
      try simp only [Act.put, List.setIfInBounds_toArray, List.set]
      refine wpAnyB_ready (rs := [10]) (by kernel_rfl) (by simp) ?_
      refine AllReadyB.cons rfl (fun K hK => ?_) AllReadyB.nil
      have d0 := HDB.out.cell 0 rfl
      have df0 := HDB.out.frozen 0
      have d1 := HDB.out.cell 1 rfl
      have df1 := HDB.out.frozen 1
      have d2 := HDB.out.cell 2 rfl
      have df2 := HDB.out.frozen 2
      go_simp
      have HS : Hid (Roll wr.heap.size g wr (((w6.setCell ⟨w4.heap.size, 0, none⟩ (.int .i64 xi)).setCell ⟨w4.heap.size, 1, none⟩ (.string xn)).setCell ⟨w4.heap.size, 2, none⟩ (.slice xa xm xc))) := hid (H6.out.trans ⟨rfl, rfl, rfl, by simp, fun k hk _ => by rw [Below.heap_setCell _ _ _ _ (show k ≠ w4.heap.size by omega), Below.heap_setCell _ _ _ _ (show k ≠ w4.heap.size by omega), Below.heap_setCell _ _ _ _ (show k ≠ w4.heap.size by omega)]⟩)
      have DS : Hid (KDice (((w6.setCell ⟨w4.heap.size, 0, none⟩ (.int .i64 xi)).setCell ⟨w4.heap.size, 1, none⟩ (.string xn)).setCell ⟨w4.heap.size, 2, none⟩ (.slice xa xm xc)) g) := hid (((D6.out.store (p := ⟨w4.heap.size, 0, none⟩) (by show g < w4.heap.size; omega) _).store (p := ⟨w4.heap.size, 1, none⟩) (by show g < w4.heap.size; omega) _).store (p := ⟨w4.heap.size, 2, none⟩) (by show g < w4.heap.size; omega) _)
      refine hK.out _ _ (fun _ => trivial) (HTT.out _ HS.out) ?_
      try simp only [Act.put, List.setIfInBounds_toArray, List.set]
      clear hK K
      refine wpAnyB_ready (rs := [11]) (by kernel_rfl) (by simp) ?_
      refine AllReadyB.cons rfl (fun K hK => ?_) AllReadyB.nil
      go_simp
      refine hK.out _ _ (fun _ => trivial) (HTT.out _ HS.out) ?_
      try simp only [Act.put, List.setIfInBounds_toArray, List.set]
      clear hK K
      refine wpAnyB_done (by kernel_rfl) ?_ _
      have HDF := hid (((HDB.out.set 0 (.int .i64 xi)).set 1 (.string xn)).set 2 (.slice xa xm xc))
      have HWF : Hid (∀ p : Addr, p.block ≠ w4.heap.size → (((w6.setCell ⟨w4.heap.size, 0, none⟩ (.int .i64 xi)).setCell ⟨w4.heap.size, 1, none⟩ (.string xn)).setCell ⟨w4.heap.size, 2, none⟩ (.slice xa xm xc)).cell? p = w6.cell? p) := hid (fun p hp => by rw [World.cell?_setCell_other _ _ _ _ (by intro e; subst e; exact hp rfl), World.cell?_setCell_other _ _ _ _ (by intro e; subst e; exact hp rfl), World.cell?_setCell_other _ _ _ _ (by intro e; subst e; exact hp rfl)])
      have HZF : Hid (w6.heap.size = (((w6.setCell ⟨w4.heap.size, 0, none⟩ (.int .i64 xi)).setCell ⟨w4.heap.size, 1, none⟩ (.string xn)).setCell ⟨w4.heap.size, 2, none⟩ (.slice xa xm xc)).heap.size) := hid (by simp)
      have HOF : Hid (ei = 0 → xi = tid ∧ xn = nm ∧ ∃ ys : List Co, ys.length = xm ∧ TabD nm xs0 ys ∧ RdCo (((w6.setCell ⟨w4.heap.size, 0, none⟩ (.int .i64 xi)).setCell ⟨w4.heap.size, 1, none⟩ (.string xn)).setCell ⟨w4.heap.size, 2, none⟩ (.slice xa xm xc)) (fun b => b < (((w6.setCell ⟨w4.heap.size, 0, none⟩ (.int .i64 xi)).setCell ⟨w4.heap.size, 1, none⟩ (.string xn)).setCell ⟨w4.heap.size, 2, none⟩ (.slice xa xm xc)).heap.size ∧ b ≠ g ∧ b ≠ w.heap.size ∧ b ≠ w.heap.size + 1) (.slice xa xm xc) ys) := hid (fun h => by
       obtain ⟨e1, e2, ys, e3, e4, e5⟩ := HOK.out h
       refine ⟨e1, e2, ys, e3, e4, (e5.keep fun p hp => ?_).more fun b hb => ⟨?_, by have := hb.1; omega, by have := hb.1; omega, by have := hb.1; omega⟩⟩
       ·rw [HWF.out p (by have h1 := hp.1; have h2 := hp.2; omega)]
       ·have h1 := hb.2; have h2 := HZF.out; omega)
      clear d0 d1 d2 df0 df1 df2
      go_wp2_with fail
      go_meet
      exact ⟨w4.heap.size, xi, xn, xa, xm, xc, ei, rfl, rfl, hid ⟨HS.out, DS.out, HDF.out, HOF.out⟩⟩
     exact AllReadyB.nil
    refine AllReadyB.cons rfl (fun K hK => ?_) ?_
    ·go_simp
     have HA := hid (HWd.out.alloc HWd.out.size (.cells #[.int .i64 0, .string ⟨#[]⟩, .slice none 0 0] 24))
     have DA := hid (DWd.out.alloc (.cells #[.int .i64 0, .string ⟨#[]⟩, .slice none 0 0] 24))
     have HDB := hid (BoxN.new Wd #[.int .i64 0, .string ⟨#[]⟩, .slice none 0 0] 24)
     have hdz : wr.heap.size ≤ Wd.heap.size := HWd.out.size
     refine hK.out _ _ (fun _ => trivial) (HTT.out _ HA.out) ?_
     try simp only [Act.put, List.setIfInBounds_toArray, List.set]
     clear hK K
     have hdl : Wd.heap.size < (Wd.alloc (.cells #[.int .i64 0, .string ⟨#[]⟩, .slice none 0 0] 24)).heap.size := by simp
     generalize Wd.alloc (.cells #[.int .i64 0, .string ⟨#[]⟩, .slice none 0 0] 24) = WA at *
     refine wpAnyB_ready (rs := [3]) (by kernel_rfl) (by simp) ?_
     refine AllReadyB.cons rfl (fun K hK => ?_) AllReadyB.nil
     go_simp
     with_reducible refine (HOPC.out WA HA.out DA.out).mono ?_
     rintro e w4 ⟨o, u, rfl, hot, hoc, hou, hod, hor⟩
     have H4 := hid (HA.out.trans (hor.mono HA.out.size))
     have D4 := hid hod
     have HOU := hid hou
     have HDB := hid (HDB.out.roll hor hdl (by omega))
     have hdl : Wd.heap.size < w4.heap.size := Nat.lt_of_lt_of_le hdl hor.size
     clear hor hod hou
     unfold Po.val
     refine hK.out _ _ (fun _ => trivial) (HTT.out _ H4.out) ?_
     try simp only [Act.put, List.setIfInBounds_toArray, List.set]
     clear hK K
     refine wpAnyB_ready (rs := [4]) (by kernel_rfl) (by simp) ?_
     refine AllReadyB.cons rfl (fun K hK => ?_) AllReadyB.nil
     go_simp
     have H5 := hid (H4.out.alloc H4.out.size (.cells #[.int .i64 o.kind, .int .i64 o.col, .string o.text, u] 56))
     have D5 := hid (D4.out.alloc (.cells #[.int .i64 o.kind, .int .i64 o.col, .string o.text, u] 56))
     have HLB := hid (BoxN.new w4 #[.int .i64 o.kind, .int .i64 o.col, .string o.text, u] 56)
     have HOU := hid ((HOU.out.below ((Below.refl _ _).alloc (Nat.le_refl _) (.cells #[.int .i64 o.kind, .int .i64 o.col, .string o.text, u] 56)) (Nat.le_refl _)).more (show w4.heap.size ≤ (w4.alloc (.cells #[.int .i64 o.kind, .int .i64 o.col, .string o.text, u] 56)).heap.size by simp))
     have HDB := hid (HDB.out.alloc (.cells #[.int .i64 o.kind, .int .i64 o.col, .string o.text, u] 56))
     have hdl : Wd.heap.size < (w4.alloc (.cells #[.int .i64 o.kind, .int .i64 o.col, .string o.text, u] 56)).heap.size := Nat.lt_of_lt_of_le hdl (by simp)
     refine hK.out _ _ (fun _ => trivial) (HTT.out _ H5.out) ?_
     try simp only [Act.put, List.setIfInBounds_toArray, List.set]
     clear hK K
     generalize w4.alloc (.cells #[.int .i64 o.kind, .int .i64 o.col, .string o.text, u] 56) = W5 at *
     refine wpAnyB_ready (rs := [5]) (by kernel_rfl) (by simp) ?_
     refine AllReadyB.cons rfl (fun K hK => ?_) AllReadyB.nil
     go_simp
     with_reducible refine (HRUN.out W5 H5.out D5.out o u w4.heap.size HOU.out HLB.out hot hoc).mono ?_
     rintro e w6 ⟨xi, xn, xa, xm, xc, ei, rfl, hb6, hok6⟩
     have H6 := hid (H5.out.trans ((Roll.of_below hb6 g).mono H5.out.size))
     have D6 := hid (D5.out.below hb6 D5.out.lt)
     have HDB := hid (HDB.out.below hb6 hdl)
     have HOK : Hid (ei = 0 → xi = tid ∧ xn = nm ∧ ∃ ys : List Co, ys.length = xm ∧ TabD nm xs0 ys ∧ RdCo w6 (fun b => W5.heap.size ≤ b ∧ b < w6.heap.size) (.slice xa xm xc) ys) := hid hok6
     have hw5 : wr.heap.size ≤ W5.heap.size := H5.out.size
     have hw6 := hb6.size
     clear hb6 hok6
     refine hK.out _ _ (fun _ => trivial) (HTT.out _ H6.out) ?_
     try simp only [Act.put, List.setIfInBounds_toArray, List.set]
     clear hK K
     refine wpAnyB_takeT (i := 6) (oi := ?o6_13) (v := ?v6_13) ?hi6_13 (by kernel_rfl) (by kernel_rfl) (by kernel_rfl) (by kernel_rfl) ?hq6_13 ?hy6_13 (fun _ => trivial) (HTT.out _ H6.out) ?r6_13
     case hi6_13 => (simp only [List.getElem?_toArray, List.getElem?_cons_zero, List.getElem?_cons_succ]; exact rfl)
     case hq6_13 => exact fun _ _ _ h => h
     case hy6_13 =>
      refine Or.inl ⟨by rfl, fun w' hSw => ?_⟩
      (try dsimp only at hSw)
      (first | (go_simp; done) | (go_simp; with_reducible rfl))
     try simp only [Act.put, List.setIfInBounds_toArray, List.set]
     refine wpAnyB_takeT (i := 7) (oi := ?o7_14) (v := ?v7_14) ?hi7_14 (by kernel_rfl) (by kernel_rfl) (by kernel_rfl) (by kernel_rfl) ?hq7_14 ?hy7_14 (fun _ => trivial) (HTT.out _ H6.out) ?r7_14
     case hi7_14 => (simp only [List.getElem?_toArray, List.getElem?_cons_zero, List.getElem?_cons_succ]; exact rfl)
     case hq7_14 => exact fun _ _ _ h => h
     case hy7_14 =>
      refine Or.inl ⟨by rfl, fun w' hSw => ?_⟩
      (try dsimp only at hSw)
      (first | (go_simp; done) | (go_simp; with_reducible rfl))
     try simp only [Act.put, List.setIfInBounds_toArray, List.set]
     refine wpAnyB_takeT (i := 8) (oi := ?o8_15) (v := ?v8_15) ?hi8_15 (by kernel_rfl) (by kernel_rfl) (by kernel_rfl) (by kernel_rfl) ?hq8_15 ?hy8_15 (fun _ => trivial) (HTT.out _ H6.out) ?r8_15
     case hi8_15 => (simp only [List.getElem?_toArray, List.getElem?_cons_zero, List.getElem?_cons_succ]; exact rfl)
     case hq8_15 => exact fun _ _ _ h => h
     case hy8_15 =>
      refine Or.inl ⟨by rfl, fun w' hSw => ?_⟩
      (try dsimp only at hSw)
      (first | (go_simp; done) | (go_simp; with_reducible rfl))
     try simp only [Act.put, List.setIfInBounds_toArray, List.set]
     refine wpAnyB_ready (rs := [10]) (by kernel_rfl) (by simp) ?_
     refine AllReadyB.cons rfl (fun K hK => ?_) AllReadyB.nil
     have d0 := HDB.out.cell 0 rfl
     have df0 := HDB.out.frozen 0
     have d1 := HDB.out.cell 1 rfl
     have df1 := HDB.out.frozen 1
     have d2 := HDB.out.cell 2 rfl
     have df2 := HDB.out.frozen 2
     go_simp
     have HS : Hid (Roll wr.heap.size g wr (((w6.setCell ⟨Wd.heap.size, 0, none⟩ (.int .i64 xi)).setCell ⟨Wd.heap.size, 1, none⟩ (.string xn)).setCell ⟨Wd.heap.size, 2, none⟩ (.slice xa xm xc))) := hid (H6.out.trans ⟨rfl, rfl, rfl, by simp, fun k hk _ => by rw [Below.heap_setCell _ _ _ _ (show k ≠ Wd.heap.size by omega), Below.heap_setCell _ _ _ _ (show k ≠ Wd.heap.size by omega), Below.heap_setCell _ _ _ _ (show k ≠ Wd.heap.size by omega)]⟩)
     have DS : Hid (KDice (((w6.setCell ⟨Wd.heap.size, 0, none⟩ (.int .i64 xi)).setCell ⟨Wd.heap.size, 1, none⟩ (.string xn)).setCell ⟨Wd.heap.size, 2, none⟩ (.slice xa xm xc)) g) := hid (((D6.out.store (p := ⟨Wd.heap.size, 0, none⟩) (by show g < Wd.heap.size; omega) _).store (p := ⟨Wd.heap.size, 1, none⟩) (by show g < Wd.heap.size; omega) _).store (p := ⟨Wd.heap.size, 2, none⟩) (by show g < Wd.heap.size; omega) _)
     refine hK.out _ _ (fun _ => trivial) (HTT.out _ HS.out) ?_
     try simp only [Act.put, List.setIfInBounds_toArray, List.set]
     clear hK K
     refine wpAnyB_ready (rs := [11]) (by kernel_rfl) (by simp) ?_
     refine AllReadyB.cons rfl (fun K hK => ?_) AllReadyB.nil
     go_simp
     refine hK.out _ _ (fun _ => trivial) (HTT.out _ HS.out) ?_
     try simp only [Act.put, List.setIfInBounds_toArray, List.set]
     clear hK K
     refine wpAnyB_done (by kernel_rfl) ?_ _
     have HDF := hid (((HDB.out.set 0 (.int .i64 xi)).set 1 (.string xn)).set 2 (.slice xa xm xc))
     have HWF : Hid (∀ p : Addr, p.block ≠ Wd.heap.size → (((w6.setCell ⟨Wd.heap.size, 0, none⟩ (.int .i64 xi)).setCell ⟨Wd.heap.size, 1, none⟩ (.string xn)).setCell ⟨Wd.heap.size, 2, none⟩ (.slice xa xm xc)).cell? p = w6.cell? p) := hid (fun p hp => by rw [World.cell?_setCell_other _ _ _ _ (by intro e; subst e; exact hp rfl), World.cell?_setCell_other _ _ _ _ (by intro e; subst e; exact hp rfl), World.cell?_setCell_other _ _ _ _ (by intro e; subst e; exact hp rfl)])
     have HZF : Hid (w6.heap.size = (((w6.setCell ⟨Wd.heap.size, 0, none⟩ (.int .i64 xi)).setCell ⟨Wd.heap.size, 1, none⟩ (.string xn)).setCell ⟨Wd.heap.size, 2, none⟩ (.slice xa xm xc)).heap.size) := hid (by simp)
     have HOF : Hid (ei = 0 → xi = tid ∧ xn = nm ∧ ∃ ys : List Co, ys.length = xm ∧ TabD nm xs0 ys ∧ RdCo (((w6.setCell ⟨Wd.heap.size, 0, none⟩ (.int .i64 xi)).setCell ⟨Wd.heap.size, 1, none⟩ (.string xn)).setCell ⟨Wd.heap.size, 2, none⟩ (.slice xa xm xc)) (fun b => b < (((w6.setCell ⟨Wd.heap.size, 0, none⟩ (.int .i64 xi)).setCell ⟨Wd.heap.size, 1, none⟩ (.string xn)).setCell ⟨Wd.heap.size, 2, none⟩ (.slice xa xm xc)).heap.size ∧ b ≠ g ∧ b ≠ w.heap.size ∧ b ≠ w.heap.size + 1) (.slice xa xm xc) ys) := hid (fun h => by
      obtain ⟨e1, e2, ys, e3, e4, e5⟩ := HOK.out h
      refine ⟨e1, e2, ys, e3, e4, (e5.keep fun p hp => ?_).more fun b hb => ⟨?_, by have := hb.1; omega, by have := hb.1; omega, by have := hb.1; omega⟩⟩
      ·rw [HWF.out p (by have h1 := hp.1; have h2 := hp.2; omega)]
      ·have h1 := hb.2; have h2 := HZF.out; omega)
     clear d0 d1 d2 df0 df1 df2
     go_wp2_with fail
     go_meet
     exact ⟨Wd.heap.size, xi, xn, xa, xm, xc, ei, rfl, rfl, hid ⟨HS.out, DS.out, HDF.out, HOF.out⟩⟩
    exact AllReadyB.nil
   case rest =>
    obtain ⟨db, xi, xn, xa, xm, xc, ei, rfl, rfl, HX⟩ := hcut
    have HF := hid (HST.out.rolled HX.out.1 HX.out.2.1 hgl)
    obtain ⟨WF, rfl⟩ : ∃ WF, WF = wc := ⟨wc, rfl⟩
    by_cases he : ei = 0
    ·subst he
     obtain ⟨rfl, rfl, ys, rfl, hty, hry⟩ := HX.out.2.2.2 rfl
     have d0 := HX.out.2.2.1.cell 0 rfl
     have c0 := HF.out.box.cell 0 rfl
     have f0 := HF.out.box.frozen 0
     have d1 := HX.out.2.2.1.cell 1 rfl
     have c1 := HF.out.box.cell 1 rfl
     have f1 := HF.out.box.frozen 1
     have d2 := HX.out.2.2.1.cell 2 rfl
     have c2 := HF.out.box.cell 2 rfl
     have f2 := HF.out.box.frozen 2
     have HN := hid (HF.out.put hgl hty hry)
     clear hty hry
     go_wp2_with fail
     go_roundg (gk - 1)
     case rel => exact ⟨by go_num, by omega, _, ys, _, HNM, HN⟩
     case measure => omega
    ·have hei : (ei == 0) = false := by simpa using he
     go_wp2_with fail
     go_roundg (gk - 1)
     case rel => exact ⟨by go_num, by omega, nm, xs, _, HNM, HF⟩
     case measure => omega
  ·obtain rfl : gk = 0 := by omega
   have HCP := hid (ref38_Copy ⟨tid, nm, xs⟩ (.slice va xs.length vc) wr.heap.size wr (HST.out.rd.more fun b hb => hb.1) (Nat.le_refl _) (by have := HST.out.tab.2.1; show xs.length ≤ 1048576; omega) (fun x hx => by
    obtain ⟨n, hn, h⟩ := HST.out.tab.2.2
    have := (h x hx).2.1
    omega))
   have b0 := HST.out.box.cell 0 rfl
   have b1 := HST.out.box.cell 1 rfl
   have b2 := HST.out.box.cell 2 rfl
   generalize hL : xs.length = L at *
   have HL := hid hL
   clear hL
   go_wp2_with fail
   with_reducible refine HCP.out.mono ?_
   rintro e w5 ⟨z, rfl, hco, hb5⟩
   have HS5 := hid (HST.out.rolled (Roll.of_below hb5 g) (HST.out.dice.below hb5 HST.out.dice.lt) hgl)
   have HCO := hid hco
   have hz5 := hb5.size
   obtain ⟨L1, hL1⟩ := hco.owns
   rw [HL.out] at hL1
   obtain ⟨za, zc, rfl⟩ := own_slice hL1
   clear hb5 hco hL1 b0 b1 b2 HCP
   have b0 := HS5.out.box.cell 0 rfl
   have b1 := HS5.out.box.cell 1 rfl
   have b2 := HS5.out.box.cell 2 rfl
   have g0 := HS5.out.box.frozen 0
   have g1 := HS5.out.box.frozen 1
   have g2 := HS5.out.box.frozen 2
   have c0 := HS5.out.res.cell 0 rfl
   have c1 := HS5.out.res.cell 1 rfl
   have c2 := HS5.out.res.cell 2 rfl
   have f0 := HS5.out.res.frozen 0
   have f1 := HS5.out.res.frozen 1
   have f2 := HS5.out.res.frozen 2
   go_wp2
   refine bodyPost_ret (v := .agg #[.int .i64 id, .string nm, .slice za L zc]) (by simp [results, Tryz.results11, go_sem, c0, c1, c2]) rfl ⟨xs, _, by rw [HNM.out], by rw [← HNM.out]; exact HS5.out.tab, HS5.out.der, ?_, HS5.out.dice.below (B := w.heap.size) (by have := Below.refl w.heap.size w5; repeat' (first | (with_reducible exact Below.refl _ _) | (with_reducible assumption) | (with_reducible refine below_drewN ?_) | (with_reducible refine Below.alloc ?_ ?_ _) | (with_reducible refine Below.drew ?_) | (with_reducible refine Below.setCell ?_ ?_ _) | (with_reducible refine Below.trans ?_ (Below.mono (by with_reducible assumption) ?_)) | go_size)) hgl, HS5.out.roll.trans (Roll.of_below (by have := Below.refl w.heap.size w5; repeat' (first | (with_reducible exact Below.refl _ _) | (with_reducible assumption) | (with_reducible refine below_drewN ?_) | (with_reducible refine Below.alloc ?_ ?_ _) | (with_reducible refine Below.drew ?_) | (with_reducible refine Below.setCell ?_ ?_ _) | (with_reducible refine Below.trans ?_ (Below.mono (by with_reducible assumption) ?_)) | go_size)) g)⟩
   have hco := HCO.out
   exact CoSt.lower (base := wr.heap.size) (CoSt.setCell (CoSt.setCell (CoSt.setCell (CoSt.setCell (CoSt.setCell (CoSt.setCell (CoSt.setCell hco (p := ⟨w.heap.size, 0, none⟩) (by show w.heap.size < wr.heap.size; omega) _) (p := ⟨w.heap.size, 1, none⟩) (by show w.heap.size < wr.heap.size; omega) _) (p := ⟨w.heap.size, 2, none⟩) (by show w.heap.size < wr.heap.size; omega) _) (p := ⟨w.heap.size, 0, none⟩) (by show w.heap.size < wr.heap.size; omega) _) (p := ⟨w.heap.size + 1, 0, none⟩) (by show w.heap.size + 1 < wr.heap.size; omega) _) (p := ⟨w.heap.size + 1, 1, none⟩) (by show w.heap.size + 1 < wr.heap.size; omega) _) (p := ⟨w.heap.size + 1, 2, none⟩) (by show w.heap.size + 1 < wr.heap.size; omega) _) (by omega)
theorem kit_Derived (g : Nat) (t : Ta) (v : Value) (id : Int) (w : World) (hd : KDice w g) (hT : TabsAt g w) (ht : TabV t) (hv : RdCo w (fun b => b < w.heap.size ∧ b ≠ g) v t.cols) :
  Calls Tryz.prog 11 #[.pointer (some ⟨g, 0, none⟩), .agg #[.int .i64 t.id, .string t.name, v], .int .i64 id] w (KDer w g id) :=
 (kit_DerivedS g t v id w hd hT ht hv).mono fun e w' h => by
  obtain ⟨xs, u, h1, h2, -, h3⟩ := h
  exact ⟨t.name, xs, u, h1, h2, h3⟩
end Go.Proofs.YthblaeleogdfpaaGreatDoor
