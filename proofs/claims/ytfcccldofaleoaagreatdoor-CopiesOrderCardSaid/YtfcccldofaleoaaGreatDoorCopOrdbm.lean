/- The reference's Int, Zero, Less at fractions that are not negative; boxes with fractions. What the scores of CopiesOrder's three tables are. Contracts of the kit's Light, Roll: numbers that came in become dice. -/
import Derived.Test.YtfcccldofaleoaaGreatDoorCopOrdbf
import Derived.Test.YtfcccldofaleoaaGreatDoorCopOrdbl
import Derived.Test.YtfcccldofaleoaaGreatDoorCopOrdbg
import Derived.Test.YtfcccldofaleoaaGreatDoorCopOrdad
namespace Go.Proofs.YtfcccldofaleoaaGreatDoor.Fr
open Go.RowKit

theorem small_pow {n : Nat} (h : n < 4294967296) : n < 4294967296 ^ 256 :=
  Nat.lt_of_lt_of_le h (by have := Nat.pow_le_pow_right (n := 4294967296) (by omega) (show 1 ≤ 256 by omega); rwa [Nat.pow_one] at this)

theorem okF_of {c d : Nat} (hd : 0 < d) (hc : c < 4294967296) (hd2 : d < 4294967296) : OkF false (c / Nat.gcd c d) (d / Nat.gcd c d) where
  pos := Nat.div_pos (Nat.gcd_le_right _ hd) (Nat.gcd_pos_of_pos_right _ hd)
  low := by
    have h := Nat.gcd_div (Nat.gcd_dvd_left c d) (Nat.gcd_dvd_right c d)
    rw [h, Nat.div_self (Nat.gcd_pos_of_pos_right _ hd)]
  sign := fun _ => rfl
  num := small_pow (Nat.lt_of_le_of_lt (Nat.div_le_self _ _) hc)
  den := small_pow (Nat.lt_of_le_of_lt (Nat.div_le_self _ _) hd2)

theorem isgn_scale (a b : Nat) (k : Nat) (hk : 0 < k) : sgn (a * k) (b * k) = sgn a b := by
  unfold sgn
  have h1 : a * k < b * k ↔ a < b := Nat.mul_lt_mul_right hk
  have h2 : b * k < a * k ↔ b < a := Nat.mul_lt_mul_right hk
  simp only [h1, h2]

theorem sgn_frac (c d c' d' : Nat) (hd : 0 < d) (hd' : 0 < d') :
    isgn (zF false (c / Nat.gcd c d) * ((d' / Nat.gcd c' d' : Nat) : Int)) (zF false (c' / Nat.gcd c' d') * ((d / Nat.gcd c d : Nat) : Int)) = sgn (c * d') (c' * d) := by
  have hg : 0 < Nat.gcd c d := Nat.gcd_pos_of_pos_right _ hd
  have hg' : 0 < Nat.gcd c' d' := Nat.gcd_pos_of_pos_right _ hd'
  have e1 : c / Nat.gcd c d * Nat.gcd c d = c := Nat.div_mul_cancel (Nat.gcd_dvd_left c d)
  have e2 : d / Nat.gcd c d * Nat.gcd c d = d := Nat.div_mul_cancel (Nat.gcd_dvd_right c d)
  have e3 : c' / Nat.gcd c' d' * Nat.gcd c' d' = c' := Nat.div_mul_cancel (Nat.gcd_dvd_left c' d')
  have e4 : d' / Nat.gcd c' d' * Nat.gcd c' d' = d' := Nat.div_mul_cancel (Nat.gcd_dvd_right c' d')
  generalize Nat.gcd c d = g at *
  generalize Nat.gcd c' d' = g' at *
  generalize c / g = p at *
  generalize d / g = q at *
  generalize c' / g' = p' at *
  generalize d' / g' = q' at *
  subst e1; subst e2; subst e3; subst e4
  have h1 : zF false p * (q' : Int) = ((p * q' : Nat) : Int) := by simp [zF]
  have h2 : zF false p' * (q : Int) = ((p' * q : Nat) : Int) := by simp [zF]
  rw [h1, h2, isgn_nat]
  have h3 : p * g * (q' * g') = p * q' * (g * g') := by rw [Nat.mul_mul_mul_comm]
  have h4 : p' * g' * (q * g) = p' * q * (g * g') := by rw [Nat.mul_mul_mul_comm, Nat.mul_comm g' g]
  rw [h3, h4, isgn_scale _ _ _ (Nat.mul_pos hg hg')]

/-- comparing two scores -/
theorem cmp_scores (u v : Value) (c d c' d' : Nat) (w : World) (hu : RdF w u false (c / Nat.gcd c d) (d / Nat.gcd c d)) (hv : RdF w v false (c' / Nat.gcd c' d') (d' / Nat.gcd c' d'))
    (hd : 0 < d) (hc : c < 4294967296) (hd2 : d < 4294967296) (hd' : 0 < d') (hc' : c' < 4294967296) (hd2' : d' < 4294967296) :
    Calls Tryz.prog 27 #[u, v] w (Ret w (.int .i64 (sgn (c * d') (c' * d)))) := by
  have h := ref_Cmp u v false false _ _ _ _ w hu hv (okF_of hd hc hd2) (okF_of hd' hc' hd2')
  rw [sgn_frac c d c' d' hd hd'] at h
  exact h

set_option maxRecDepth 100000 in
set_option maxHeartbeats 1000000 in
theorem ref_Int (n : Nat) (w : World) (hn : n < 9223372036854775808) : Calls Tryz.prog 26 #[.int .i64 (n : Int)] w (GivesF w false n 1) := by
  have HPA := hid (fun W => ref_Part n 1 W hn (by omega) (by omega))
  simp only [Nat.gcd_one_right, Nat.div_one, Nat.div_self (show 0 < 1 by omega)] at HPA
  go_enter Tryz.func26, Tryz.ntmps26
  go_wp2_with fail
  refine (HPA.out _).mono ?_
  rintro e w3 ⟨a3, c3, a4, c4, rfl, hN, hb3⟩
  have HN := hid hN
  have HB3 := hid hb3
  have hz3 := hb3.size
  have m0 := cell_later hb3 (a := ⟨w.heap.size, 0, none⟩) (v := .bool false) (by go_cell)
  have m1 := cell_later hb3 (a := ⟨w.heap.size, 1, none⟩) (v := .slice none 0 0) (by go_cell)
  have m2 := cell_later hb3 (a := ⟨w.heap.size, 2, none⟩) (v := .bool false) (by go_cell)
  have m3 := cell_later hb3 (a := ⟨w.heap.size, 3, none⟩) (v := .slice none 0 0) (by go_cell)
  have fm0 := frozen_later hb3 (a := ⟨w.heap.size, 0, none⟩) (v := .bool false) (by go_cell) (by simp [go_sem])
  have fm1 := frozen_later hb3 (a := ⟨w.heap.size, 1, none⟩) (v := .slice none 0 0) (by go_cell) (by simp [go_sem])
  have fm2 := frozen_later hb3 (a := ⟨w.heap.size, 2, none⟩) (v := .bool false) (by go_cell) (by simp [go_sem])
  have fm3 := frozen_later hb3 (a := ⟨w.heap.size, 3, none⟩) (v := .slice none 0 0) (by go_cell) (by simp [go_sem])
  clear hN hb3
  simp at hz3
  have hlt : w.heap.size < w3.heap.size := by omega
  have hne : w.heap.size ≠ w3.heap.size := by omega
  go_wp2
  refine bodyPost_ret (by simp [results, Tryz.results26, go_sem, m0, m1, m2, m3, hne, hlt]; rfl) rfl ?_
  exact ⟨a3, c3, a4, c4, by first | rfl | simp, (((((HN.out.setCell (by simp)).setCell (by simp)).setCell (by simp)).setCell (by simp))).mono (by simp), by have h3 := HB3.out; repeat' (first | (with_reducible exact Below.refl _ _) | (with_reducible assumption) | (with_reducible refine below_drewN ?_) | (with_reducible refine Below.alloc ?_ ?_ _) | (with_reducible refine Below.drew ?_) | (with_reducible refine Below.setCell ?_ ?_ _) | (with_reducible refine Below.trans ?_ (Below.mono (by with_reducible assumption) ?_)) | go_size)⟩

set_option maxRecDepth 100000 in
set_option maxHeartbeats 1000000 in
theorem ref_Zero (w : World) : Calls Tryz.prog 25 #[] w (GivesF w false 0 1) := by
  have HPA := hid (fun W => ref_Int 0 W (by omega))
  go_enter Tryz.func25, Tryz.ntmps25
  go_wp2_with fail
  refine (HPA.out _).mono ?_
  rintro e w3 ⟨a3, c3, a4, c4, rfl, hN, hb3⟩
  have HN := hid hN
  have HB3 := hid hb3
  have hz3 := hb3.size
  have m0 := cell_later hb3 (a := ⟨w.heap.size, 0, none⟩) (v := .bool false) (by go_cell)
  have m1 := cell_later hb3 (a := ⟨w.heap.size, 1, none⟩) (v := .slice none 0 0) (by go_cell)
  have m2 := cell_later hb3 (a := ⟨w.heap.size, 2, none⟩) (v := .bool false) (by go_cell)
  have m3 := cell_later hb3 (a := ⟨w.heap.size, 3, none⟩) (v := .slice none 0 0) (by go_cell)
  have fm0 := frozen_later hb3 (a := ⟨w.heap.size, 0, none⟩) (v := .bool false) (by go_cell) (by simp [go_sem])
  have fm1 := frozen_later hb3 (a := ⟨w.heap.size, 1, none⟩) (v := .slice none 0 0) (by go_cell) (by simp [go_sem])
  have fm2 := frozen_later hb3 (a := ⟨w.heap.size, 2, none⟩) (v := .bool false) (by go_cell) (by simp [go_sem])
  have fm3 := frozen_later hb3 (a := ⟨w.heap.size, 3, none⟩) (v := .slice none 0 0) (by go_cell) (by simp [go_sem])
  clear hN hb3
  simp at hz3
  have hlt : w.heap.size < w3.heap.size := by omega
  have hne : w.heap.size ≠ w3.heap.size := by omega
  go_wp2
  refine bodyPost_ret (by simp [results, Tryz.results25, go_sem, m0, m1, m2, m3, hne, hlt]; rfl) rfl ?_
  exact ⟨a3, c3, a4, c4, by first | rfl | simp, (((((HN.out.setCell (by simp)).setCell (by simp)).setCell (by simp)).setCell (by simp))).mono (by simp), by have h3 := HB3.out; repeat' (first | (with_reducible exact Below.refl _ _) | (with_reducible assumption) | (with_reducible refine below_drewN ?_) | (with_reducible refine Below.alloc ?_ ?_ _) | (with_reducible refine Below.drew ?_) | (with_reducible refine Below.setCell ?_ ?_ _) | (with_reducible refine Below.trans ?_ (Below.mono (by with_reducible assumption) ?_)) | go_size)⟩

theorem sgn_le {a b : Nat} (h : a ≤ b) : sgn a b ≤ 0 := by
  unfold sgn
  split
  · omega
  · split <;> omega
/-- a box with a fraction -/
def FrB (W : World) (b : Nat) (u v : Value) (p q : Nat) : Prop := BoxN W b 49 #[.bool false, u, .bool false, v] ∧ RdF W (.agg #[.bool false, u, .bool false, v]) false p q
theorem FrB.below {W W' : World} {b : Nat} {u v : Value} {p q : Nat} (h : FrB W b u v p q) (hb : Below W.heap.size W W') : FrB W' b u v p q := ⟨h.1.below hb h.1.lt, h.2.kept hb⟩
theorem FrB.new {W : World} {u v : Value} {p q : Nat} (h : RdF W (.agg #[.bool false, u, .bool false, v]) false p q) : FrB (W.alloc (.cells #[.bool false, u, .bool false, v] 49)) W.heap.size u v p q :=
  ⟨BoxN.new W _ _, h.kept ((Below.refl _ _).alloc (Nat.le_refl _) _)⟩

end Go.Proofs.YtfcccldofaleoaaGreatDoor.Fr
namespace Go.Proofs.YtfcccldofaleoaaGreatDoor
open Go.RowKit
/-- a box with a table that can be read -/
def TaB (W : World) (b : Nat) (id : Int) (nm : ByteArray) (v : Value) (xs : List Co) : Prop := BoxN W b 24 #[.int .i64 id, .string nm, v] ∧ RdCo W (· < W.heap.size) v xs
theorem TaB.below {W W' : World} {b : Nat} {id : Int} {nm : ByteArray} {v : Value} {xs : List Co} (h : TaB W b id nm v xs) (hb : Below W.heap.size W W') : TaB W' b id nm v xs :=
  ⟨h.1.below hb h.1.lt, (h.2.keep fun p (hp : p.block < W.heap.size) => hb.cell (p := p) hp).more fun b hb' => Nat.lt_of_lt_of_le hb' hb.size⟩
/-- the three tables of CopiesOrder -/
structure OrdSt (w W : World) (A B C : Nat) (va vb vc : Value) (nm nc : ByteArray) (xs ys zs : List Co) : Prop where
  bel : Below w.heap.size w W
  a : TaB W A 1 nm va xs
  b : TaB W B 2 ⟨#[]⟩ vb ys
  c : TaB W C 3 nc vc zs
theorem OrdSt.below {w W W' : World} {A B C : Nat} {va vb vc : Value} {nm nc : ByteArray} {xs ys zs : List Co} (h : OrdSt w W A B C va vb vc nm nc xs ys zs) (hb : Below W.heap.size W W') : OrdSt w W' A B C va vb vc nm nc xs ys zs :=
  ⟨h.bel.trans (hb.mono h.bel.size), h.a.below hb, h.b.below hb, h.c.below hb⟩

end Go.Proofs.YtfcccldofaleoaaGreatDoor

namespace Go.Proofs.YtfcccldofaleoaaGreatDoor
open Go.RowKit

def ScoreIs (w : World) (A B C : Nat) (va vb vC : Value) (nm nc : ByteArray) (xs ys zs : List Co) (u v : Value) (P Q : Nat) : Prop :=
  ∀ W, OrdSt w W A B C va vb vC nm nc xs ys zs → Calls Tryz.prog 19 #[u, v] W (Fr.GivesFE W false P Q (.int .i64 0))
theorem ScoreIs.go {w : World} {A B C : Nat} {va vb vC : Value} {nm nc : ByteArray} {xs ys zs : List Co} {u v : Value} {P Q : Nat} (h : ScoreIs w A B C va vb vC nm nc xs ys zs u v P Q) {W : World} (hW : OrdSt w W A B C va vb vC nm nc xs ys zs) :
    Calls Tryz.prog 19 #[u, v] W (Fr.GivesFE W false P Q (.int .i64 0)) := h W hW
theorem ord_scores (w : World) (A B C : Nat) (va vb vC : Value) (nm nc : ByteArray) (ys cs : List Co) (q n s t : Nat) (hT : Tabs w) (hq : ys.length = q) (hy : TabV ⟨1, nm, ys⟩) (hc : TabV ⟨3, nc, cs⟩) (hcv : ColsV ys n) (hn : rowsC ys = n) (hn4 : n ≤ 4096) (hnd : (namesL ys).Nodup) :
    ∃ (P1 P2 Q2 : Nat) (z : Int), P1 = (if n = 0 then 0 else 1) ∧ z ≤ 0
      ∧ ScoreIs w A B C va vb vC nm nc ys (trnL ys (rotL q s) (rotL n t)) cs (.agg #[.int .i64 1, .string nm, va]) (.agg #[.int .i64 2, .string ⟨#[]⟩, vb]) P1 1
      ∧ ScoreIs w A B C va vb vC nm nc ys (trnL ys (rotL q s) (rotL n t)) cs (.agg #[.int .i64 1, .string nm, va]) (.agg #[.int .i64 3, .string nc, vC]) P2 Q2
      ∧ ScoreIs w A B C va vb vC nm nc ys (trnL ys (rotL q s) (rotL n t)) cs (.agg #[.int .i64 3, .string nc, vC]) (.agg #[.int .i64 1, .string nm, va]) P2 Q2
      ∧ ScoreIs w A B C va vb vC nm nc ys (trnL ys (rotL q s) (rotL n t)) cs (.agg #[.int .i64 2, .string ⟨#[]⟩, vb]) (.agg #[.int .i64 3, .string nc, vC]) P2 Q2
      ∧ ∀ W u v, Fr.RdF W u false P2 Q2 → Fr.RdF W v false 1 1 → Calls Tryz.prog 27 #[u, v] W (Ret W (.int .i64 z)) := by
  subst hq
  have hz : TabV ⟨2, ⟨#[]⟩, trnL ys (rotL ys.length s) (rotL n t)⟩ := trn_valid hy hcv hn4 (by omega) (by omega) (by unfold TextOk; decide +kernel)
  have hd0 : 0 < denS ys cs := by unfold denS; omega
  have hra : rowsC ys ≤ 4096 := by omega
  have hrb : rowsC cs ≤ 4096 := rows_le (t := ⟨3, nc, cs⟩) hc
  have hd4 : denS ys cs ≤ 4096 := by unfold denS; omega
  have hcd := common_le_den ys cs
  obtain ⟨o1, o2⟩ := order_one (s := s) (t := t) hcv hn hnd
  obtain ⟨o3, o4⟩ := order_other (s := s) (t := t) hcv hn cs
  refine ⟨_, commonL ys cs / Nat.gcd (commonL ys cs) (denS ys cs), denS ys cs / Nat.gcd (commonL ys cs) (denS ys cs), Fr.sgn (commonL ys cs * 1) (1 * denS ys cs), rfl, Fr.sgn_le (by omega), fun W h => ?_, fun W h => ?_, fun W h => ?_, fun W h => ?_, fun W u v hu hv => ?_⟩
  · have h1 := copies_Score ⟨1, nm, ys⟩ ⟨2, ⟨#[]⟩, trnL ys (rotL ys.length s) (rotL n t)⟩ va vb W.heap.size W hy hz h.a.2 h.b.2 (Nat.le_refl _) (hT.below h.bel)
    simp only at h1
    rw [o1, o2] at h1
    by_cases h0 : n = 0
    · subst h0
      rw [if_pos rfl]
      exact h1
    · have e : max n 1 = n := by omega
      rw [e, Nat.gcd_self, Nat.div_self (by omega)] at h1
      rw [if_neg h0]
      exact h1
  · exact copies_Score ⟨1, nm, ys⟩ ⟨3, nc, cs⟩ va vC W.heap.size W hy hc h.a.2 h.c.2 (Nat.le_refl _) (hT.below h.bel)
  · have h1 := copies_Score ⟨3, nc, cs⟩ ⟨1, nm, ys⟩ vC va W.heap.size W hc hy h.c.2 h.a.2 (Nat.le_refl _) (hT.below h.bel)
    simp only at h1
    rw [denS_comm cs ys, commonL_comm cs ys] at h1
    exact h1
  · have h1 := copies_Score ⟨2, ⟨#[]⟩, trnL ys (rotL ys.length s) (rotL n t)⟩ ⟨3, nc, cs⟩ vb vC W.heap.size W hz hc h.b.2 h.c.2 (Nat.le_refl _) (hT.below h.bel)
    simp only at h1
    rw [o3, o4] at h1
    exact h1
  · exact Fr.cmp_scores u v (commonL ys cs) (denS ys cs) 1 1 W hu hv hd0 (by omega) (by omega) (by omega) (by omega) (by omega)

end Go.Proofs.YtfcccldofaleoaaGreatDoor

namespace Go.Proofs.YtfcccldofaleoaaGreatDoor
open Go.RowKit

/-- A slice of numbers that came in. -/
def RdI (w : World) (B : Nat) (a : Option Addr) (n c : Nat) : Prop :=
  n ≤ c ∧ c ≤ maxLen ∧ (0 < n → ∃ b o, a = some ⟨b, o, none⟩ ∧ b < B ∧ ∀ i, i < n → ∃ z : Int, w.cell? ⟨b, o + i, none⟩ = some (.int .i64 z))

theorem kit_Light (a : Option Addr) (n c : Nat) (w : World) (hn : n ≤ maxLen) : Calls Tryz.prog 8 #[.slice a n c] w (fun e w' => e = .returned (.bool (decide (n ≤ 500))) ∧ w = w') := by
  unfold maxLen at hn
  by_cases h : n ≤ 500
  · have h1 : decide ((n : Int) ≤ 500) = true := decide_eq_true (by omega)
    have h2 : decide (n ≤ 500) = true := decide_eq_true h
    go_enter Tryz.func8, Tryz.ntmps8
    go_wp2_with fail
    go_ret
    exact ⟨ret_bool (by simp [h]), rfl⟩
  · have h1 : decide ((n : Int) ≤ 500) = false := decide_eq_false (by omega)
    have h2 : decide (n ≤ 500) = false := decide_eq_false h
    go_enter Tryz.func8, Tryz.ntmps8
    go_wp2_with fail
    go_ret
    exact ⟨ret_bool (by simp [h]), rfl⟩

def KRoll (w : World) (e : Ending) (w' : World) : Prop := e = .returned (.pointer (some ⟨w.heap.size, 0, none⟩)) ∧ KDice w' w.heap.size ∧ Below w.heap.size w w'
theorem kroll {w : World} {a : Option Addr} {n c : Nat} (h : RdI w w.heap.size a n c) (hn : n ≤ 500) (hp : Pow w) : KRoll w (.returned (.pointer (some ⟨w.heap.size, 0, none⟩))) (w.alloc (.cells #[.slice a n c, .int .i64 0] 84)) := by
  have hb : Below w.heap.size w (w.alloc (.cells #[.slice a n c, .int .i64 0] 84)) := (Below.refl _ _).alloc (Nat.le_refl _) _
  refine ⟨rfl, ⟨⟨hp.lt, hp.below hb (Nat.le_refl _)⟩, a, n, c, 0, heap_alloc_new _ _, Nat.zero_le _, hn, fun h0 => ?_⟩, hb⟩
  obtain ⟨b, o, e, hlt, hc⟩ := h.2.2 h0
  refine ⟨b, o, e, hlt, fun i hi => ?_⟩
  obtain ⟨z, hz⟩ := hc i hi
  exact ⟨z, (World.cell?_alloc_lt _ _ ⟨b, o + i, none⟩ hlt).trans hz⟩
theorem kit_Roll (a : Option Addr) (n c : Nat) (w : World) (h : RdI w w.heap.size a n c) (hn : n ≤ 500) (hp : Pow w) : Calls Tryz.prog 10 #[.slice a n c] w (KRoll w) := by
  have H := hid (kroll h hn hp)
  clear h hp
  go_enter Tryz.func10, Tryz.ntmps10
  go_wp2_with fail
  go_ret
  exact H.out

end Go.Proofs.YtfcccldofaleoaaGreatDoor
