/- Contract of the kit's Derived. The reference's Int, Zero, Less at fractions that are not negative; boxes with fractions. Contracts of num.Zero, num.Sign, lists.Positive, lists.Scores and of the reference's Less, at short fractions. DERIVED: THE SHELF's CONTRACTS AT THIS DUMP, IN PLAIN WORDS (tools/lay-plain.mjs out of 'YtaajpliifdlokaaGreatDoorShOL.lean', which tools/lay-shelf.mjs wrote): THE SAME DECLARATIONS UNDER THE SAME NAMES: 'import', 'namespace', 'open', 'def', 'theorem' AND NOTHING ELSE: no command of the shelf's: FOR A HAND-IN. Each laying: the table of numbers ('.._ren') and one theorem, a field a fact of the dump's own or the kernel's comparison; each contract: ONE APPLICATION. Plain: what operations do one after another (chapter 38): filters can be exchanged, sorting is done once for all. No program in sight. Plain: what explain finds (chapter 38). No program in sight. Plain: what explain finds leads there, by no more operations (for ExplainLeads). Plain: what explain finds can be done, and is in normal form (for ExplainShape and ExplainLeads). Plain: the normal form of what explain finds (for ExplainShape). Plain: which table comes from which (chapter 39). No program in sight. Plain: ancestors and roots (chapter 39). No program in sight. Plain: LineageAlone and LineageGrows (chapter 39). No program in sight. Plain: LineageRight and LineageNearest (chapter 39). No program in sight. -/
import Derived.Test.YtaajpliifdlokaaGreatDoorGFraq
import Derived.Test.YtaajpliifdlokaaGreatDoorGFrao
import Derived.Test.YtaajpliifdlokaaGreatDoorGFraj
import Derived.Shelf.SortM.Plain
import Derived.Shelf.SortM.SortNone
import Derived.Ground.SlgmProg
import Derived.Test.YtaajpliifdlokaaGreatDoorProg
import Derived.Test.YtaajpliifdlokaaGreatDoorGFrag
set_option linter.unusedVariables false
set_option linter.unusedSimpArgs false
namespace Go.Proofs.YtaajpliifdlokaaGreatDoor
open Go.RowKit
def TabW (nm : ByteArray) (xs : List Co) : Prop := TextOk 1024 nm ∧ xs.length ≤ 64 ∧ ∃ n, n ≤ 4096 ∧ ColsV xs n
theorem TabW.tab {nm : ByteArray} {xs : List Co} (h : TabW nm xs) {id : Int} (h0 : 0 ≤ id) (h1 : id ≤ 1073741824) : TabV ⟨id, nm, xs⟩ := ⟨h0, h1, h.1, h.2.1, h.2.2⟩
theorem TabV.w {t : Ta} (h : TabV t) : TabW t.name t.cols := ⟨h.2.2.1, h.2.2.2.1, h.2.2.2.2⟩
def TabsAt (g : Nat) (w : World) : Prop := ∃ w0, Tabs w0 ∧ w0.heap.size ≤ g ∧ Below w0.heap.size w0 w
theorem TabsAt.roll {g B : Nat} {w w' : World} (h : TabsAt g w) (hr : Roll B g w w') (hB : g ≤ B) : TabsAt g w' := by
  obtain ⟨w0, h1, h2, h3⟩ := h
  exact ⟨w0, h1, h2, h3.trans (hr.below h2 (by omega))⟩
def DerL (x0 xs : List Co) : Prop := ∀ P : List Co → Prop, P x0 → (∀ (ys : List Co) (o : Po), P ys → canL ys.length o = true → Few3 ys.length o → P (doL ys o)) → P xs
theorem DerL.refl (x0 : List Co) : DerL x0 x0 := fun _ h _ => h
theorem DerL.step {x0 xs : List Co} (h : DerL x0 xs) {o : Po} (hc : canL xs.length o = true) (ho : Few3 xs.length o) : DerL x0 (doL xs o) := fun P h0 hs => hs xs o (h P h0 hs) hc ho
def TabD (nm : ByteArray) (x0 xs : List Co) : Prop := TabW nm xs ∧ DerL x0 xs
def KDerS (x0 : List Co) (nm : ByteArray) (w : World) (g : Nat) (id : Int) (e : Ending) (w' : World) : Prop :=
  ∃ (xs : List Co) (v : Value), e = .returned (.agg #[.int .i64 id, .string nm, v]) ∧ TabW nm xs ∧ DerL x0 xs ∧ CoSt w' w.heap.size 55 v xs ∧ KDice w' g ∧ Roll w.heap.size g w w'
def KDer (w : World) (g : Nat) (id : Int) (e : Ending) (w' : World) : Prop :=
  ∃ (nm : ByteArray) (xs : List Co) (v : Value), e = .returned (.agg #[.int .i64 id, .string nm, v]) ∧ TabW nm xs ∧ CoSt w' w.heap.size 55 v xs ∧ KDice w' g ∧ Roll w.heap.size g w w'
def RunQ (w : World) (tid : Int) (nm : ByteArray) (x0 : List Co) (e : Ending) (w' : World) : Prop :=
  ∃ (xi : Int) (xn : ByteArray) (xa : Option Addr) (xm xc : Nat) (ei : Int), e = .returned (.tuple #[.agg #[.int .i64 xi, .string xn, .slice xa xm xc], .int .i64 ei]) ∧ Below w.heap.size w w' ∧ (ei = 0 → xi = tid ∧ xn = nm ∧ ∃ ys : List Co, ys.length = xm ∧ TabD nm x0 ys ∧ RdCo w' (fun b => w.heap.size ≤ b ∧ b < w'.heap.size) (.slice xa xm xc) ys)
def DerX (w wr wx : World) (g db : Nat) (tid : Int) (nm : ByteArray) (x0 : List Co) (xi : Int) (xn : ByteArray) (xa : Option Addr) (xm xc : Nat) (ei : Int) : Prop :=
  Roll wr.heap.size g wr wx ∧ KDice wx g ∧ BoxN wx db 51 #[.int .i64 xi, .string xn, .slice xa xm xc] ∧
    (ei = 0 → xi = tid ∧ xn = nm ∧ ∃ ys : List Co, ys.length = xm ∧ TabD nm x0 ys ∧ RdCo wx (fun b => b < wx.heap.size ∧ b ≠ g ∧ b ≠ w.heap.size ∧ b ≠ w.heap.size + 1) (.slice xa xm xc) ys)
structure DerSt (w0 w : World) (g : Nat) (tid : Int) (nm : ByteArray) (x0 xs : List Co) (v : Value) : Prop where
  box : BoxN w w0.heap.size 51 #[.int .i64 tid, .string nm, v]
  res : BoxN w (w0.heap.size + 1) 51 #[.int .i64 0, .string ⟨#[]⟩, .slice none 0 0]
  tab : TabW nm xs
  der : DerL x0 xs
  rd : RdCo w (fun b => b < w.heap.size ∧ b ≠ g ∧ b ≠ w0.heap.size ∧ b ≠ w0.heap.size + 1) v xs
  dice : KDice w g
  roll : Roll w0.heap.size g w0 w
  low : w0.heap.size + 2 ≤ w.heap.size
section
variable {w0 w w' : World} {g : Nat} {tid : Int} {nm : ByteArray} {x0 xs : List Co} {v : Value}
theorem DerSt.rolled (h : DerSt w0 w g tid nm x0 xs v) (hr : Roll w.heap.size g w w') (hd : KDice w' g) (hg : g < w0.heap.size) : DerSt w0 w' g tid nm x0 xs v :=
  ⟨h.box.roll hr h.box.lt (by omega), h.res.roll hr h.res.lt (by omega), h.tab, h.der, (h.rd.keep fun p hp => hr.cell hp.1 hp.2.1).more fun b hb => ⟨Nat.lt_of_lt_of_le hb.1 hr.size, hb.2⟩, hd, h.roll.trans (hr.mono h.roll.size), Nat.le_trans h.low hr.size⟩
theorem DerSt.put (h : DerSt w0 w g tid nm x0 xs v) (hg : g < w0.heap.size) {ys : List Co} {u : Value} (ht : TabD nm x0 ys) (hr : RdCo w (fun b => b < w.heap.size ∧ b ≠ g ∧ b ≠ w0.heap.size ∧ b ≠ w0.heap.size + 1) u ys) :
    DerSt w0 (((w.setCell ⟨w0.heap.size, 0, none⟩ (.int .i64 tid)).setCell ⟨w0.heap.size, 1, none⟩ (.string nm)).setCell ⟨w0.heap.size, 2, none⟩ u) g tid nm x0 ys u := by
  have hc : ∀ p : Addr, p.block ≠ w0.heap.size → (((w.setCell ⟨w0.heap.size, 0, none⟩ (.int .i64 tid)).setCell ⟨w0.heap.size, 1, none⟩ (.string nm)).setCell ⟨w0.heap.size, 2, none⟩ u).cell? p = w.cell? p := fun p hp => by
    rw [World.cell?_setCell_other _ _ _ _ (by intro e; subst e; exact hp rfl), World.cell?_setCell_other _ _ _ _ (by intro e; subst e; exact hp rfl), World.cell?_setCell_other _ _ _ _ (by intro e; subst e; exact hp rfl)]
  refine ⟨((h.box.set 0 _).set 1 _).set 2 _, ((h.res.other (by show w0.heap.size ≠ w0.heap.size + 1; omega) _).other (by show w0.heap.size ≠ w0.heap.size + 1; omega) _).other (by show w0.heap.size ≠ w0.heap.size + 1; omega) _, ht.1, ht.2, (hr.keep fun p hp => hc p hp.2.2.1).more fun b hb => ⟨by simpa using hb.1, hb.2⟩, ((h.dice.store (by show g < w0.heap.size; exact hg) _).store (by show g < w0.heap.size; exact hg) _).store (by show g < w0.heap.size; exact hg) _, h.roll.trans ⟨rfl, rfl, rfl, by simp, fun k hk _ => ?_⟩, by simpa using h.low⟩
  rw [Below.heap_setCell _ _ _ _ (show k ≠ w0.heap.size by omega), Below.heap_setCell _ _ _ _ (show k ≠ w0.heap.size by omega), Below.heap_setCell _ _ _ _ (show k ≠ w0.heap.size by omega)]
end
end Go.Proofs.YtaajpliifdlokaaGreatDoor

namespace Go.Proofs.YtaajpliifdlokaaGreatDoor.Fr
open Go.RowKit
theorem small_pow {n : Nat} (h : n < 4294967296) : n < 4294967296 ^ 256 :=
  Nat.lt_of_lt_of_le h (by have := Nat.pow_le_pow_right (n := 4294967296) (by omega) (show 1 ≤ 256 by omega); rwa [Nat.pow_one] at this)
theorem okF_of {c d : Nat} (hd : 0 < d) (hc : c < 4294967296) (hd2 : d < 4294967296) : OkF false (c / Nat.gcd c d) (d / Nat.gcd c d) where
  pos := Nat.div_pos (Nat.gcd_le_right _ hd) (Nat.gcd_pos_of_pos_right _ hd)
  low := by
    have h := Nat.gcd_div (Nat.gcd_dvd_left c d) (Nat.gcd_dvd_right c d)
    rw [h, Nat.div_self (Nat.gcd_pos_of_pos_right _ hd)]
  sign := fun _ => rfl
  num := small_pow (Nat.lt_of_le_of_lt (Nat.div_le_self _ _) hc)
  den := small_pow (Nat.lt_of_le_of_lt (Nat.div_le_self _ _) hd2)
set_option maxRecDepth 100000 in
set_option maxHeartbeats 1000000 in
theorem ref_Int (n : Nat) (w : World) (hn : n < 9223372036854775808) : Calls Tryz.prog 22 #[.int .i64 (n : Int)] w (GivesF w false n 1) := by
  have HPA := hid (fun W => ref_Part n 1 W hn (by omega) (by omega))
  simp only [Nat.gcd_one_right, Nat.div_one, Nat.div_self (show 0 < 1 by omega)] at HPA
  go_enter Tryz.func22, Tryz.ntmps22
  go_wp2_with fail
  refine (HPA.out _).mono ?_
  rintro e w3 ⟨a3, c3, a4, c4, rfl, hN, hb3⟩
  have HN := hid hN
  have HB3 := hid hb3
  have hz3 := hb3.size
  have m0 := cell_later hb3 (a := ⟨w.heap.size, 0, none⟩) (v := .bool false) (by go_cell)
  have m1 := cell_later hb3 (a := ⟨w.heap.size, 1, none⟩) (v := .slice none 0 0) (by go_cell)
  have m2 := cell_later hb3 (a := ⟨w.heap.size, 2, none⟩) (v := .bool false) (by go_cell)
  have m3 := cell_later hb3 (a := ⟨w.heap.size, 3, none⟩) (v := .slice none 0 0) (by go_cell)
  have fm0 := frozen_later hb3 (a := ⟨w.heap.size, 0, none⟩) (v := .bool false) (by go_cell) (by simp [go_sem])
  have fm1 := frozen_later hb3 (a := ⟨w.heap.size, 1, none⟩) (v := .slice none 0 0) (by go_cell) (by simp [go_sem])
  have fm2 := frozen_later hb3 (a := ⟨w.heap.size, 2, none⟩) (v := .bool false) (by go_cell) (by simp [go_sem])
  have fm3 := frozen_later hb3 (a := ⟨w.heap.size, 3, none⟩) (v := .slice none 0 0) (by go_cell) (by simp [go_sem])
  clear hN hb3
  simp at hz3
  have hlt : w.heap.size < w3.heap.size := by omega
  have hne : w.heap.size ≠ w3.heap.size := by omega
  go_wp2
  refine bodyPost_ret (by simp [results, Tryz.results22, go_sem, m0, m1, m2, m3, hne, hlt]; rfl) rfl ?_
  exact ⟨a3, c3, a4, c4, by first | rfl | simp, (((((HN.out.setCell (by simp)).setCell (by simp)).setCell (by simp)).setCell (by simp))).mono (by simp), by have h3 := HB3.out; repeat' (first | (with_reducible exact Below.refl _ _) | (with_reducible assumption) | (with_reducible refine below_drewN ?_) | (with_reducible refine Below.alloc ?_ ?_ _) | (with_reducible refine Below.drew ?_) | (with_reducible refine Below.setCell ?_ ?_ _) | (with_reducible refine Below.trans ?_ (Below.mono (by with_reducible assumption) ?_)) | go_size)⟩
set_option maxRecDepth 100000 in
set_option maxHeartbeats 1000000 in
theorem ref_Zero (w : World) : Calls Tryz.prog 21 #[] w (GivesF w false 0 1) := by
  have HPA := hid (fun W => ref_Int 0 W (by omega))
  go_enter Tryz.func21, Tryz.ntmps21
  go_wp2_with fail
  refine (HPA.out _).mono ?_
  rintro e w3 ⟨a3, c3, a4, c4, rfl, hN, hb3⟩
  have HN := hid hN
  have HB3 := hid hb3
  have hz3 := hb3.size
  have m0 := cell_later hb3 (a := ⟨w.heap.size, 0, none⟩) (v := .bool false) (by go_cell)
  have m1 := cell_later hb3 (a := ⟨w.heap.size, 1, none⟩) (v := .slice none 0 0) (by go_cell)
  have m2 := cell_later hb3 (a := ⟨w.heap.size, 2, none⟩) (v := .bool false) (by go_cell)
  have m3 := cell_later hb3 (a := ⟨w.heap.size, 3, none⟩) (v := .slice none 0 0) (by go_cell)
  have fm0 := frozen_later hb3 (a := ⟨w.heap.size, 0, none⟩) (v := .bool false) (by go_cell) (by simp [go_sem])
  have fm1 := frozen_later hb3 (a := ⟨w.heap.size, 1, none⟩) (v := .slice none 0 0) (by go_cell) (by simp [go_sem])
  have fm2 := frozen_later hb3 (a := ⟨w.heap.size, 2, none⟩) (v := .bool false) (by go_cell) (by simp [go_sem])
  have fm3 := frozen_later hb3 (a := ⟨w.heap.size, 3, none⟩) (v := .slice none 0 0) (by go_cell) (by simp [go_sem])
  clear hN hb3
  simp at hz3
  have hlt : w.heap.size < w3.heap.size := by omega
  have hne : w.heap.size ≠ w3.heap.size := by omega
  go_wp2
  refine bodyPost_ret (by simp [results, Tryz.results21, go_sem, m0, m1, m2, m3, hne, hlt]; rfl) rfl ?_
  exact ⟨a3, c3, a4, c4, by first | rfl | simp, (((((HN.out.setCell (by simp)).setCell (by simp)).setCell (by simp)).setCell (by simp))).mono (by simp), by have h3 := HB3.out; repeat' (first | (with_reducible exact Below.refl _ _) | (with_reducible assumption) | (with_reducible refine below_drewN ?_) | (with_reducible refine Below.alloc ?_ ?_ _) | (with_reducible refine Below.drew ?_) | (with_reducible refine Below.setCell ?_ ?_ _) | (with_reducible refine Below.trans ?_ (Below.mono (by with_reducible assumption) ?_)) | go_size)⟩
def FrB (W : World) (b : Nat) (u v : Value) (p q : Nat) : Prop := BoxN W b 33 #[.bool false, u, .bool false, v] ∧ RdF W (.agg #[.bool false, u, .bool false, v]) false p q
theorem FrB.below {W W' : World} {b : Nat} {u v : Value} {p q : Nat} (h : FrB W b u v p q) (hb : Below W.heap.size W W') : FrB W' b u v p q := ⟨h.1.below hb h.1.lt, h.2.kept hb⟩
theorem FrB.new {W : World} {u v : Value} {p q : Nat} (h : RdF W (.agg #[.bool false, u, .bool false, v]) false p q) : FrB (W.alloc (.cells #[.bool false, u, .bool false, v] 33)) W.heap.size u v p q :=
  ⟨BoxN.new W _ _, h.kept ((Below.refl _ _).alloc (Nat.le_refl _) _)⟩
end Go.Proofs.YtaajpliifdlokaaGreatDoor.Fr
namespace Go.Proofs.YtaajpliifdlokaaGreatDoor
open Go.RowKit
def TaB (W : World) (b : Nat) (id : Int) (nm : ByteArray) (v : Value) (xs : List Co) : Prop := BoxN W b 51 #[.int .i64 id, .string nm, v] ∧ RdCo W (· < W.heap.size) v xs
theorem TaB.below {W W' : World} {b : Nat} {id : Int} {nm : ByteArray} {v : Value} {xs : List Co} (h : TaB W b id nm v xs) (hb : Below W.heap.size W W') : TaB W' b id nm v xs :=
  ⟨h.1.below hb h.1.lt, (h.2.keep fun p (hp : p.block < W.heap.size) => hb.cell (p := p) hp).more fun b hb' => Nat.lt_of_lt_of_le hb' hb.size⟩
structure OrdSt (w W : World) (A B C : Nat) (va vb vc : Value) (nm nc : ByteArray) (xs ys zs : List Co) : Prop where
  bel : Below w.heap.size w W
  a : TaB W A 1 nm va xs
  b : TaB W B 2 ⟨#[]⟩ vb ys
  c : TaB W C 3 nc vc zs
theorem OrdSt.below {w W W' : World} {A B C : Nat} {va vb vc : Value} {nm nc : ByteArray} {xs ys zs : List Co} (h : OrdSt w W A B C va vb vc nm nc xs ys zs) (hb : Below W.heap.size W W') : OrdSt w W' A B C va vb vc nm nc xs ys zs :=
  ⟨h.bel.trans (hb.mono h.bel.size), h.a.below hb, h.b.below hb, h.c.below hb⟩
end Go.Proofs.YtaajpliifdlokaaGreatDoor

namespace Go.Proofs.YtaajpliifdlokaaGreatDoor.Fr
open Go.RowKit
theorem sml_one : Sml 0 1 := ⟨by omega, by omega, by omega, by decide⟩
theorem Sml.ok {p q : Nat} (h : Sml p q) : OkF false p q := ⟨h.pos, h.low, fun _ => rfl, small_pow h.num, small_pow h.den⟩
theorem sml_of {c d : Nat} (hd : 0 < d) (hc : c < 4294967296) (hd2 : d < 4294967296) : Sml (c / Nat.gcd c d) (d / Nat.gcd c d) :=
  ⟨Nat.lt_of_le_of_lt (Nat.div_le_self _ _) hc, (okF_of hd hc hd2).pos, Nat.lt_of_le_of_lt (Nat.div_le_self _ _) hd2, (okF_of hd hc hd2).low⟩
set_option maxRecDepth 100000 in
set_option maxHeartbeats 1000000 in
theorem num_Zero (w : World) : Calls Tryz.prog 78 #[] w (GivesF w false 0 1) := by
  have HOF : Hid (∀ W, Calls Tryz.prog 83 #[.int .i64 0, .int .i64 1] W (GivesFE W false 0 1 (.int .i64 0))) := hid (fun W => by
    have h := frac_Of1 0 1 W (by omega) (by omega) (by omega)
    simp only [Nat.zero_div, Nat.gcd_one_right, Nat.div_one] at h
    exact h)
  go_enter Tryz.func78, Tryz.ntmps78
  go_wp2_with fail
  refine (HOF.out _).mono ?_
  rintro e w3 ⟨a3, c3, a4, c4, rfl, hN, hb3⟩
  have HN := hid hN
  have HB3 := hid hb3
  have hz3 := hb3.size
  have m0 := cell_later hb3 (a := ⟨w.heap.size, 0, none⟩) (v := .bool false) (by go_cell)
  have m1 := cell_later hb3 (a := ⟨w.heap.size, 1, none⟩) (v := .slice none 0 0) (by go_cell)
  have m2 := cell_later hb3 (a := ⟨w.heap.size, 2, none⟩) (v := .bool false) (by go_cell)
  have m3 := cell_later hb3 (a := ⟨w.heap.size, 3, none⟩) (v := .slice none 0 0) (by go_cell)
  have fm0 := frozen_later hb3 (a := ⟨w.heap.size, 0, none⟩) (v := .bool false) (by go_cell) (by simp [go_sem])
  have fm1 := frozen_later hb3 (a := ⟨w.heap.size, 1, none⟩) (v := .slice none 0 0) (by go_cell) (by simp [go_sem])
  have fm2 := frozen_later hb3 (a := ⟨w.heap.size, 2, none⟩) (v := .bool false) (by go_cell) (by simp [go_sem])
  have fm3 := frozen_later hb3 (a := ⟨w.heap.size, 3, none⟩) (v := .slice none 0 0) (by go_cell) (by simp [go_sem])
  clear hN hb3
  simp at hz3
  have hlt : w.heap.size < w3.heap.size := by omega
  have hne : w.heap.size ≠ w3.heap.size := by omega
  go_wp2
  refine bodyPost_ret (by simp [results, Tryz.results78, go_sem, m0, m1, m2, m3, hne, hlt]; rfl) rfl ?_
  exact ⟨a3, c3, a4, c4, by first | rfl | simp, (((((HN.out.setCell (by simp)).setCell (by simp)).setCell (by simp)).setCell (by simp)).kept ((Below.refl _ _).alloc (Nat.le_refl _) _)).mono (by simp), by have h3 := HB3.out; repeat' (first | (with_reducible exact Below.refl _ _) | (with_reducible assumption) | (with_reducible refine below_drewN ?_) | (with_reducible refine Below.alloc ?_ ?_ _) | (with_reducible refine Below.drew ?_) | (with_reducible refine Below.setCell ?_ ?_ _) | (with_reducible refine Below.trans ?_ (Below.mono (by with_reducible assumption) ?_)) | go_size)⟩
set_option maxRecDepth 100000 in
set_option maxHeartbeats 1000000 in
theorem num_Sign (u : Value) (p q : Nat) (w : World) (hu : RdF w u false p q) (s : Sml p q) (h1 : OneAt w) : Calls Tryz.prog 39 #[u] w (Ret w (.int .i64 (sgn p 0))) := by
  have HCM := hid (fun W v (hW : Below w.heap.size w W) (hv : RdF W v false 0 1) => frac_Cmp u v p q 0 1 W (hu.kept hW) hv s sml_one (h1.below hW))
  simp only [Nat.mul_one, Nat.zero_mul] at HCM
  have HZE := hid (fun W => num_Zero W)
  obtain ⟨a1, c1, b1, d1, rfl, -, -⟩ := hu
  clear s h1
  generalize sgn p 0 = sg at *
  generalize (dig p).length = l1 at *
  generalize (dig q).length = k1 at *
  have HX := hid (BoxN.new w #[.bool false, .slice a1 l1 c1, .bool false, .slice b1 k1 d1] 33)
  have HB0 := hid ((Below.refl w.heap.size w).alloc (Nat.le_refl _) (.cells #[.bool false, .slice a1 l1 c1, .bool false, .slice b1 k1 d1] 33))
  go_enter Tryz.func39, Tryz.ntmps39
  go_upto_region 1 with fail
  generalize w.alloc (.cells #[.bool false, .slice a1 l1 c1, .bool false, .slice b1 k1 d1] 33) = W0 at *
  have HG := hid (fun W (hW : Below W0.heap.size W0 W) => (⟨(HX.out.below hW HX.out.lt).cell 0 rfl, (HX.out.below hW HX.out.lt).cell 1 rfl, (HX.out.below hW HX.out.lt).cell 2 rfl, (HX.out.below hW HX.out.lt).cell 3 rfl⟩ : W.cell? ⟨w.heap.size, 0, none⟩ = some (.bool false) ∧ W.cell? ⟨w.heap.size, 1, none⟩ = some (.slice a1 l1 c1) ∧ W.cell? ⟨w.heap.size, 2, none⟩ = some (.bool false) ∧ W.cell? ⟨w.heap.size, 3, none⟩ = some (.slice b1 k1 d1)))
  have HC := hid (show Below W0.heap.size W0 W0.drew by have h1 := Below.refl W0.heap.size W0; repeat' (first | (with_reducible exact Below.refl _ _) | (with_reducible assumption) | (with_reducible refine below_drewN ?_) | (with_reducible refine Below.alloc ?_ ?_ _) | (with_reducible refine Below.drew ?_) | (with_reducible refine Below.setCell ?_ ?_ _) | (with_reducible refine Below.trans ?_ (Below.mono (by with_reducible assumption) ?_)) | go_size))
  go_region_held3 (fun w' => w'.cell? ⟨w.heap.size, 0, none⟩ = some (.bool false) ∧ w'.cell? ⟨w.heap.size, 1, none⟩ = some (.slice a1 l1 c1) ∧ w'.cell? ⟨w.heap.size, 2, none⟩ = some (.bool false) ∧ w'.cell? ⟨w.heap.size, 3, none⟩ = some (.slice b1 k1 d1))
    (first | exact HG.out _ HC.out | go_keep)
    (first
      | (go_at_call 78; go_must ((with_reducible refine (HZE.out _).mono ?_); rintro e w5 ⟨a5, c5, b5, d5, rfl, hN, hb5⟩; have HC := hid (belowT HC.out hb5); have HN := hid (hN.rd false); clear hN hb5))
      | (go_at_call 40; go_must ((with_reducible refine (HCM.out _ _ (belowT HB0.out HC.out) HN.out).mono ?_); rintro e w6 ⟨rfl, hb6⟩; have HC := hid (belowT HC.out hb6); clear hb6)))
  all_goals
    go_wp2
    go_ret
    exact ⟨rfl, belowT HB0.out HC.out⟩
set_option maxRecDepth 100000 in
set_option maxHeartbeats 1000000 in
theorem ref_Less (u v : Value) (p1 q1 p2 q2 : Nat) (w : World) (hu : RdF w u false p1 q1) (hv : RdF w v false p2 q2) (s1 : Sml p1 q1) (s2 : Sml p2 q2) :
    Calls Tryz.prog 14 #[u, v] w (Ret w (.bool (decide (p1 * q2 < p2 * q1)))) := by
  have HCM := hid (fun W (hW : Below w.heap.size w W) => ref_Cmp u v false false p1 q1 p2 q2 W (hu.kept hW) (hv.kept hW) s1.ok s2.ok)
  have e1 : isgn (zF false p1 * (q2 : Int)) (zF false p2 * (q1 : Int)) = sgn (p1 * q2) (p2 * q1) := by
    have h1 : zF false p1 * (q2 : Int) = ((p1 * q2 : Nat) : Int) := by simp [zF]
    have h2 : zF false p2 * (q1 : Int) = ((p2 * q1 : Nat) : Int) := by simp [zF]
    rw [h1, h2, isgn_nat]
  rw [e1] at HCM
  clear e1
  obtain ⟨a1, c1, b1, d1, rfl, -, -⟩ := hu
  obtain ⟨a2, c2, b2, d2, rfl, -, -⟩ := hv
  clear s1 s2
  generalize (dig p1).length = l1 at *
  generalize (dig q1).length = k1 at *
  generalize (dig p2).length = l2 at *
  generalize (dig q2).length = k2 at *
  generalize p1 * q2 = X at *
  generalize p2 * q1 = Y at *
  have hsg : decide (sgn X Y < 0) = decide (X < Y) := by
    rcases Nat.lt_trichotomy X Y with h | h | h
    · rw [sgn_lt h]; simp [h]
    · rw [show X = Y from h, sgn_self]; simp
    · rw [sgn_gt h, show decide (X < Y) = false from decide_eq_false (by omega)]; rfl
  generalize decide (X < Y) = r at *
  generalize sgn X Y = sg at *
  have HB0 := hid (((Below.refl w.heap.size w).alloc (Nat.le_refl _) (.cells #[.bool false, .slice a1 l1 c1, .bool false, .slice b1 k1 d1] 33)).alloc (by simp) (.cells #[.bool false, .slice a2 l2 c2, .bool false, .slice b2 k2 d2] 33))
  go_enter Tryz.func14, Tryz.ntmps14
  go_wp2_with fail
  with_reducible refine (HCM.out _ HB0.out).mono ?_
  rintro e w3 ⟨rfl, hb3⟩
  have HB3 := hid (belowT HB0.out hb3)
  clear hb3
  go_wp2
  go_ret
  exact ⟨by rw [← hsg]; rfl, HB3.out⟩
end Go.Proofs.YtaajpliifdlokaaGreatDoor.Fr

namespace Go.Proofs
open Go.Shelf
def Tryz.sortInt_ren : Go.Shelf.Ren := ⟨fun | 5 => 53 | 8 => 90 | 7 => 97 | 19 => 144 | 20 => 145 | 10 => 150 | 11 => 151 | 12 => 152 | 13 => 153 | 14 => 154 | 15 => 155 | 16 => 156 | 17 => 157 | 18 => 158 | 30 => 205 | 31 => 200 | 32 => 201 | 33 => 206 | 34 => 207 | 35 => 106 | 40 => 235 | n => n, fun | 23 => 22 | 25 => 3 | 3 => 3 | 32 => 135 | 22 => 22 | 0 => 0 | 44 => 159 | 46 => 157 | 4 => 4 | 36 => 173 | 35 => 172 | 41 => 66 | 5 => 5 | 9 => 9 | 53 => 215 | 57 => 219 | 63 => 248 | 64 => 249 | n => n, fun | n => n⟩
theorem Tryz.sortInt : Go.Proofs.SlLaysM.n5 Tryz.prog Tryz.sortInt_ren := {
 mixed := by kernel_rfl
 f5 := ⟨Tryz.f53.name, by decide, Tryz.func53.trans (congrArg some (by kernel_rfl))⟩
 f7 := ⟨Tryz.f97.name, by decide, Tryz.func97.trans (congrArg some (by kernel_rfl))⟩
 f8 := Tryz.func90.trans (congrArg some (by kernel_rfl))
 f10 := ⟨Tryz.f150.name, by decide, Tryz.func150.trans (congrArg some (by kernel_rfl))⟩
 f11 := ⟨Tryz.f151.name, by decide, Tryz.func151.trans (congrArg some (by kernel_rfl))⟩
 f12 := ⟨Tryz.f152.name, by decide, Tryz.func152.trans (congrArg some (by kernel_rfl))⟩
 f13 := ⟨Tryz.f153.name, by decide, Tryz.func153.trans (congrArg some (by kernel_rfl))⟩
 f14 := ⟨Tryz.f154.name, by decide, Tryz.func154.trans (congrArg some (by kernel_rfl))⟩
 f15 := ⟨Tryz.f155.name, by decide, Tryz.func155.trans (congrArg some (by kernel_rfl))⟩
 f16 := ⟨Tryz.f156.name, by decide, Tryz.func156.trans (congrArg some (by kernel_rfl))⟩
 f17 := ⟨Tryz.f157.name, by decide, Tryz.func157.trans (congrArg some (by kernel_rfl))⟩
 f18 := ⟨Tryz.f158.name, by decide, Tryz.func158.trans (congrArg some (by kernel_rfl))⟩
 f19 := Tryz.func144.trans (congrArg some (by kernel_rfl))
 f20 := Tryz.func145.trans (congrArg some (by kernel_rfl))
 f30 := ⟨Tryz.f205.name, by decide, Tryz.func205.trans (congrArg some (by kernel_rfl))⟩
 f31 := Tryz.func200.trans (congrArg some (by kernel_rfl))
 f32 := Tryz.func201.trans (congrArg some (by kernel_rfl))
 f33 := ⟨Tryz.f206.name, by decide, Tryz.func206.trans (congrArg some (by kernel_rfl))⟩
 f34 := ⟨Tryz.f207.name, by decide, Tryz.func207.trans (congrArg some (by kernel_rfl))⟩
 f35 := ⟨Tryz.f106.name, by decide, Tryz.func106.trans (congrArg some (by kernel_rfl))⟩
 f40 := ⟨Tryz.f235.name, by decide, Tryz.func235.trans (congrArg some (by kernel_rfl))⟩
 t0 := Tryz.underlying0
 a0 := Tryz.isAgg0
 z0 := Tryz.sizeOf0
 v0 := Tryz.zeroValue0
 t3 := Tryz.underlying3
 a3 := Tryz.isAgg3
 z3 := Tryz.sizeOf3
 v3 := Tryz.zeroValue3
 t4 := Tryz.underlying4
 a4 := Tryz.isAgg4
 z4 := Tryz.sizeOf4
 v4 := Tryz.zeroValue4
 t5 := Tryz.underlying5
 a5 := Tryz.isAgg5
 z5 := Tryz.sizeOf5
 v5 := Tryz.zeroValue5
 t9 := Tryz.underlying9
 a9 := Tryz.isAgg9
 z9 := Tryz.sizeOf9
 v9 := Tryz.zeroValue9
 t22 := Tryz.underlying22
 a22 := Tryz.isAgg22
 z22 := Tryz.sizeOf22
 v22 := Tryz.zeroValue22
 t23 := Tryz.underlying22
 a23 := Tryz.isAgg22
 z23 := Tryz.sizeOf22
 v23 := Tryz.zeroValue22
 t25 := Tryz.underlying3
 a25 := Tryz.isAgg3
 z25 := Tryz.sizeOf3
 v25 := Tryz.zeroValue3
 t32 := Tryz.underlying135
 a32 := Tryz.isAgg135
 z32 := Tryz.sizeOf135
 v32 := Tryz.zeroValue135
 t35 := Tryz.underlying172
 a35 := Tryz.isAgg172
 z35 := Tryz.sizeOf172
 v35 := Tryz.zeroValue172
 t36 := Tryz.underlying173
 a36 := Tryz.isAgg173
 z36 := Tryz.sizeOf173
 v36 := Tryz.zeroValue173
 t41 := Tryz.underlying66
 a41 := Tryz.isAgg66
 z41 := Tryz.sizeOf66
 v41 := Tryz.zeroValue66
 t44 := Tryz.underlying159
 a44 := Tryz.isAgg159
 z44 := Tryz.sizeOf159
 v44 := Tryz.zeroValue159
 t46 := Tryz.underlying157
 a46 := Tryz.isAgg157
 z46 := Tryz.sizeOf157
 v46 := Tryz.zeroValue157
 t53 := Tryz.underlying215
 a53 := Tryz.isAgg215
 z53 := Tryz.sizeOf215
 v53 := Tryz.zeroValue215
 t57 := Tryz.underlying219
 a57 := Tryz.isAgg219
 z57 := Tryz.sizeOf219
 v57 := Tryz.zeroValue219
 t63 := Tryz.underlying248
 a63 := Tryz.isAgg248
 z63 := Tryz.sizeOf248
 v63 := Tryz.zeroValue248
 t64 := Tryz.underlying249
 a64 := Tryz.isAgg249
 z64 := Tryz.sizeOf249
 v64 := Tryz.zeroValue249 }
end Go.Proofs

namespace Go.Proofs.YtaajpliifdlokaaGreatDoor
open Go.RowKit
theorem selL_len (xs : List Co) (rs : List Nat) : (selL xs rs).length = xs.length := by simp [selL]
def keepF (xs : List Co) (o : Po) (r : Nat) : Bool := if o.kind = 1 then !(cellAt xs o.col.toNat r).null && decide ((cellAt xs o.col.toNat r).text = o.text) else !(cellAt xs o.col.toNat r).null
def leR (xs : List Co) (c a b : Nat) : Prop := ¬ 0 < cmpC (cellAt xs c a) (cellAt xs c b)
end Go.Proofs.YtaajpliifdlokaaGreatDoor

namespace Go.Proofs.YtaajpliifdlokaaGreatDoor
open Go.RowKit
instance : DecidableEq Co := fun a b => decidable_of_iff (a.name = b.name ∧ a.cells = b.cells) (by cases a; cases b; simp)
def opEq (k : Nat) (s : ByteArray) : Po := ⟨1, (k : Int), s, []⟩
def opFull (k : Nat) : Po := ⟨2, (k : Int), ⟨#[]⟩, []⟩
def opProj (ks : List Nat) : Po := ⟨3, 0, ⟨#[]⟩, ks.map fun (k : Nat) => (k : Int)⟩
def opDist : Po := ⟨4, 0, ⟨#[]⟩, []⟩
def opSort (k : Nat) : Po := ⟨5, (k : Int), ⟨#[]⟩, []⟩
def runL (xs : List Co) (os : List Po) : List Co := os.foldl doL xs
def hasC (c : Co) : List ByteArray := setOfL ((c.cells.filter fun x => !x.null).map Cl.text)
def filters1 (c : Co) (k : Nat) : List (List Po) := [opFull k] :: (hasC c).map fun s => [opEq k s]
def filtersL (xs : List Co) : List (List Po) := [] :: (List.range xs.length).flatMap fun k => filters1 (xs.getD k Co.z) k
def sortsL (n : Nat) : List (List Po) := [] :: (List.range n).map fun k => [opSort k]
def endsL (n : Nat) : List (List Po) := sortsL n ++ (sortsL n).map (opDist :: ·)
def fromL (a b : List Co) : List Nat := b.map fun c => idxN a c.name
def projOf (a b : List Co) : Option (List Po) :=
  if b.all (fun c => (namesL a).any fun s => decide (s = c.name)) = true then (if a.length = b.length ∧ fromL a b = List.range b.length then some [] else some [opProj (fromL a b)]) else none
def finderF (a b : List Co) (p : List Po) (most : Nat) (f : List Po) : Option (List Po) :=
  if most < f.length + p.length then none
  else if rowsC (runL a (f ++ p)) < rowsC b then none
  else (endsL b.length).findSome? fun e => if (f ++ p).length + e.length = most ∧ runL (runL a (f ++ p)) e = b then some (f ++ p ++ e) else none
def finderL (a b : List Co) (p : List Po) (most : Nat) : Option (List Po) := (filtersL a).findSome? (finderF a b p most)
def findL (a b : List Co) : Option (List Po) := match projOf a b with
  | none => none
  | some p => (List.range 5).findSome? (finderL a b p)
end Go.Proofs.YtaajpliifdlokaaGreatDoor

namespace Go.Proofs.YtaajpliifdlokaaGreatDoor
open Go.RowKit
end Go.Proofs.YtaajpliifdlokaaGreatDoor

namespace Go.Proofs.YtaajpliifdlokaaGreatDoor
open Go.RowKit
def canRun : List Co → List Po → Bool
  | _, [] => true
  | xs, o :: os => canL xs.length o && canRun (doL xs o) os
end Go.Proofs.YtaajpliifdlokaaGreatDoor

namespace Go.Proofs.YtaajpliifdlokaaGreatDoor
open Go.RowKit
def rankP (k : Int) : Nat := if k = 1 ∨ k = 2 then 1 else if k = 3 then 2 else if k = 4 then 3 else if k = 5 then 4 else 0
end Go.Proofs.YtaajpliifdlokaaGreatDoor

namespace Go.Proofs.YtaajpliifdlokaaGreatDoor
open Go.RowKit
structure Lk where
  src : Int
  dst : Int
  ops : List Po
def cellsT (t : Ta) : Nat := rowsC t.cols * t.cols.length
def grT (a b : Ta) : Bool := decide (cellsT b < cellsT a) || (decide (cellsT a = cellsT b) && decide (a.id < b.id))
def origO (b a : Ta) : Option (Ta × List Po) := if grT a b = true then (findL a.cols b.cols).map fun os => (a, os) else none
def fromsL (l : List Ta) (b : Ta) : List (Ta × List Po) := l.filterMap (origO b)
def cmpN (a b : Nat) : Int := if a < b then -1 else if a = b then 0 else 1
def cmpI (a b : Int) : Int := if a < b then -1 else if a = b then 0 else 1
def nearO (x y : Ta × List Po) : Int :=
  if cmpN x.2.length y.2.length ≠ 0 then cmpN x.2.length y.2.length else if cmpN (cellsT x.1) (cellsT y.1) ≠ 0 then cmpN (cellsT x.1) (cellsT y.1) else cmpI y.1.id x.1.id
def minO (x : Ta × List Po) (r : List (Ta × List Po)) : Ta × List Po := r.foldl (fun m y => if nearO y m < 0 then y else m) x
def linkO (l : List Ta) (b : Ta) : Option Lk := match fromsL l b with
  | [] => none
  | x :: r => some ⟨(minO x r).1.id, b.id, (minO x r).2⟩
def linksL (l : List Ta) : List Lk := l.filterMap (linkO l)
end Go.Proofs.YtaajpliifdlokaaGreatDoor

namespace Go.Proofs.YtaajpliifdlokaaGreatDoor
open Go.RowKit
def toL (x : List Lk) (id : Int) : Option Lk := x.find? fun y => decide (y.dst = id)
def ancL (x : List Lk) : Nat → List Int → List Int
  | 0, seen => seen
  | k + 1, seen => match toL x (seen.getLastD 0) with
    | none => seen
    | some y => if seen.any (fun i => decide (i = y.src)) = true then seen else ancL x k (seen ++ [y.src])
def upL (l : List Ta) : Ta → List Ta → Prop
  | _, [] => True
  | s, a :: r => a ∈ l ∧ grT a s = true ∧ (∃ y, linkO l s = some y ∧ y.src = a.id) ∧ upL l a r
end Go.Proofs.YtaajpliifdlokaaGreatDoor

namespace Go.Proofs.YtaajpliifdlokaaGreatDoor
open Go.RowKit
end Go.Proofs.YtaajpliifdlokaaGreatDoor

namespace Go.Proofs.YtaajpliifdlokaaGreatDoor
open Go.RowKit
def rootsT (l : List Ta) : List Ta := l.filter fun b => (linkO l b).isNone
end Go.Proofs.YtaajpliifdlokaaGreatDoor
