/- Contracts of explain.row and slices.Equal at cells. Contracts of slices.IndexFunc and slices.ContainsFunc at numbers, a closure each. Contracts of explain.distinct and its closure. -/
import Derived.Test.YtaajpliifdlokaaGreatDoorLnNral
import Derived.Deep.RegionHeld3
set_option linter.unusedVariables false
set_option linter.unusedSimpArgs false
namespace Go.Proofs.YtaajpliifdlokaaGreatDoor
open Go.RowKit
theorem rowC_len (xs : List Co) (i : Nat) : (rowC xs i).length = xs.length := by simp [rowC]
theorem rowC_snoc {xs : List Co} {i q : Nat} (h : q < xs.length) : (rowC xs i).take (q + 1) = (rowC xs i).take q ++ [(xs.getD q Co.z).cells.getD i Cl.z] := by
  rw [List.take_succ_eq_append_getElem (by rw [rowC_len]; exact h)]
  simp [rowC, List.getD, h]
set_option maxRecDepth 100000 in
set_option maxHeartbeats 2000000 in
theorem expl_row (id : Int) (nm : ByteArray) (v : Value) (xs : List Co) (i B : Nat) (w : World) (hv : RdCo w (· < B) v xs) (hB : B ≤ w.heap.size) (hi : ∀ x ∈ xs, i < x.cells.length) (hl : xs.length ≤ 1048576) :
  Calls Tryz.prog 266 #[.agg #[.int .i64 id, .string nm, v], .int .i64 (i : Int)] w (fun e w' => ∃ a c, e = .returned (.slice a xs.length c) ∧ RdCl w' (News w w') (.slice a xs.length c) (rowC xs i) ∧ Below w.heap.size w w') := by
 obtain ⟨i0, hi0, hz0, hz1, hz2⟩ := info_parts info_cell
 obtain ⟨cv, ⟨va, vc, rfl, hvc, hvm, hr⟩, hcl⟩ := hv
 have HR := hid hr
 have HCL := hid hcl
 have HI := hid (fun q (hq : q < xs.length) => hi _ (getD_mem hq Co.z))
 have HSN := hid (fun q (h : q < xs.length) => @rowC_snoc xs i q h)
 have HRL := hid (rowC_len xs i)
 have HTK := hid (List.take_of_length_le (l := rowC xs i) (i := xs.length) (by rw [rowC_len]; omega))
 clear hr hcl hi
 unfold maxLen at hvm
 generalize rowC xs i = R at *
 generalize hxl : xs.length = L at *
 clear hxl
 have HX0 := hid (BoxN.new w #[.int .i64 id, .string nm, .slice va L vc] 51)
 have HB0 := hid ((Below.refl w.heap.size w).alloc (Nat.le_refl _) (.cells #[.int .i64 id, .string nm, .slice va L vc] 51))
 have x2 := HX0.out.cell 2 rfl
 have hz0' : (w.alloc (.cells #[.int .i64 id, .string nm, .slice va L vc] 51)).heap.size = w.heap.size + 1 := by simp
 go_enter Tryz.func266, Tryz.ntmps266
 generalize hLA : Code.loop _ = LA
 go_wp2_with fail
 generalize w.alloc (.cells #[.int .i64 id, .string nm, .slice va L vc] 51) = W0 at *
 subst hLA
 clear x2 HX0
 go_loopg [5, 11] L (fun N y s wr => ∃ q : Nat, s = .int .i64 (q : Int) ∧ q + N = L ∧ Hid (Below w.heap.size w wr) ∧ W0.heap.size ≤ wr.heap.size ∧ Hid (wr.ownsRow W0.heap.size 84 2 y q (flatK 2 q (clF (R.take q)))))
 case atStart => exact ⟨0, rfl, by omega, HB0, Nat.le_refl _, hid (World.ownsRow_nil _ _ _ _)⟩
 case round =>
  obtain ⟨q, rfl, hq, HB, hlo, HO⟩ := hrel
  obtain ⟨ya, yc, rfl⟩ := own_slice HO.out
  by_cases hp : 0 < gk
  ·obtain ⟨b, o, rfl, hb, hcell⟩ := HR.out (by omega)
   have hbw : b < w.heap.size := by have : b < B := hb; omega
   obtain ⟨ca, ck, hcq, -, -, hcr⟩ := HCL.out q (by omega)
   have k0 : wr.cell? ⟨b, o + q * 2, none⟩ = some (.string (xs.getD q Co.z).name) := (HB.out.cell (p := ⟨b, o + q * 2, none⟩) hbw).trans (hcell q (by omega) 0 (by omega))
   have k1 : wr.cell? ⟨b, o + q * 2 + 1, none⟩ = some (cv q) := (HB.out.cell (p := ⟨b, o + q * 2 + 1, none⟩) hbw).trans (hcell q (by omega) 1 (by omega))
   have hiq := HI.out q (by omega)
   have HSNq := hid (HSN.out q (by omega))
   obtain ⟨b2, o2, rfl, hb2, hcell2⟩ := hcr (by omega)
   have hb2w : b2 < w.heap.size := by have : b2 < B := hb2; omega
   have m0 : wr.cell? ⟨b2, o2 + i * 2, none⟩ = some (.bool ((xs.getD q Co.z).cells.getD i Cl.z).null) := (HB.out.cell (p := ⟨b2, o2 + i * 2, none⟩) hb2w).trans (hcell2 i hiq 0 (by omega))
   have m1 : wr.cell? ⟨b2, o2 + i * 2 + 1, none⟩ = some (.string ((xs.getD q Co.z).cells.getD i Cl.z).text) := (HB.out.cell (p := ⟨b2, o2 + i * 2 + 1, none⟩) hb2w).trans (hcell2 i hiq 1 (by omega))
   rw [hcq] at k1
   clear hcell hcell2 hcr hcq
   generalize (xs.getD q Co.z).name = xn at *
   have hii : (i : Int) < ((xs.getD q Co.z).cells.length : Int) := by omega
   generalize (xs.getD q Co.z).cells.getD i Cl.z = cc at *
   generalize (xs.getD q Co.z).cells.length = n at *
   obtain ⟨cn, ct⟩ := cc
   simp only at m0 m1
   have HCX := hid (BoxN.new wr #[.string xn, .slice (some ⟨b2, o2, none⟩) n ck] 55)
   have d1 := HCX.out.cell 1 rfl
   have hws := HB.out.size
   have hcz : ∀ p : Addr, p.block < w.heap.size → (wr.alloc (.cells #[.string xn, .slice (some ⟨b2, o2, none⟩) n ck] 55)).cell? p = wr.cell? p := fun p hp => World.cell?_alloc_lt _ _ _ (by omega)
   have q0 := (hcz ⟨b2, o2 + i * 2, none⟩ hb2w).trans m0
   have q1 := (hcz ⟨b2, o2 + i * 2 + 1, none⟩ hb2w).trans m1
   clear hcz
   have HB1 := hid (HB.out.alloc (by have := HB.out.size; omega) (.cells #[.string xn, .slice (some ⟨b2, o2, none⟩) n ck] 55))
   have HO1 := hid ((HO.out.alloc (.cells #[.string xn, .slice (some ⟨b2, o2, none⟩) n ck] 55)).alloc (.cells #[.bool cn, .string ct] 84))
   have hn1 := BoxN.new (wr.alloc (.cells #[.string xn, .slice (some ⟨b2, o2, none⟩) n ck] 55)) #[.bool cn, .string ct] 84
   rw [World.size_alloc] at hn1
   have HN1 := hid hn1
   have HB2 := hid (HB1.out.alloc (by have := HB.out.size; simp; omega) (.cells #[.bool cn, .string ct] 84))
   clear hn1
   go_wp2_with (at_builtin; refine wpList_append_form _ rfl _ _ 53 53 rfl W0.heap.size 84 84 i0 (.agg #[.bool false, .string ⟨#[]⟩]) 2 24 Tryz.underlying53 Tryz.underlying53 hi0 hz0 hz1 hz2 rfl (by decide) (.slice ya q yc) q _ rfl HO1.out (some ⟨_, 0, none⟩) 1 1 [.bool cn, .string ct] rfl rfl (fun _ => ⟨_, rfl, World.news_of_block HN1.out⟩) (by intro u hu; simp at hu; rcases hu with rfl | rfl <;> rfl) (by omega) (by unfold maxLen; omega) (by omega) (by simp; omega) ?_; intro p8 cap8 w8 hown8 hg8 hat8 hlt8; have HG8 := hid hg8; have HOWN8 := hid hown8; clear hown8 hg8 hat8)
   clear k0 k1 m0 m1 d1 q0 q1
   go_wp2
   go_roundg (gk - 1)
   case rel =>
    have hgs := HG8.out.size
    refine ⟨q + 1, by go_num, by omega, hid (HB2.out.grown HG8.out (by have := HB.out.size; simp; omega) (fun k hk => by have := (HO.out.lt k hk).1; omega)), by simp at hgs; omega, hid ?_⟩
    have h1 := cl_push (R.take q) ⟨cn, ct⟩
    rw [List.length_append, List.length_singleton, List.length_take, Nat.min_eq_left (by rw [HRL.out]; omega)] at h1
    rw [HSNq.out, ← h1]
    exact HOWN8.out
   case measure => omega
  ·obtain rfl : gk = 0 := by omega
   obtain rfl : q = L := by omega
   go_wp2
   go_ret
   have hown := HO.out
   rw [HTK.out] at hown
   have h2 : RdCl wr (fun b => W0.heap.size ≤ b ∧ b < wr.heap.size) (.slice ya q yc) R := by
    have := rdCl_of_own (cs := R) (by rw [HRL.out]; exact hown)
    exact this
   exact ⟨_, _, rfl, h2.more fun b hb => ⟨by omega, hb.2⟩, HB.out⟩
theorem list_eq_iff {xs ys : List Cl} (h : xs.length = ys.length) : xs = ys ↔ ∀ q, q < xs.length → xs.getD q Cl.z = ys.getD q Cl.z := by
  refine ⟨fun e q _ => by rw [e], fun he => List.ext_getElem h fun i h1 h2 => ?_⟩
  have := he i h1
  simpa [List.getD, h1, h2] using this
set_option maxRecDepth 100000 in
set_option maxHeartbeats 4000000 in
theorem equal_cells (u v : Value) (xs ys : List Cl) (B : Nat) (w : World) (hu : RdCl w (· < B) u xs) (hv : RdCl w (· < B) v ys) (hB : B ≤ w.heap.size) :
  Calls Tryz.prog 216 #[u, v] w (Ret w (.bool (decide (xs = ys)))) := by
 obtain ⟨ua, uc, rfl, huc, hum, hur⟩ := hu
 obtain ⟨va, vc, rfl, hvc, hvm, hvr⟩ := hv
 have HU := hid hur
 have HV := hid hvr
 unfold maxLen at hum hvm
 clear hur hvr
 by_cases hl : xs.length = ys.length
 ·have HNO : Hid (∀ q, q < xs.length → decide (xs.getD q Cl.z = ys.getD q Cl.z) = false → decide (xs = ys) = false) := hid (fun q hq h => by
   refine decide_eq_false fun e => ?_
   exact of_decide_eq_false h (by rw [e]))
  have HYES : Hid ((∀ q, q < xs.length → decide (xs.getD q Cl.z = ys.getD q Cl.z) = true) → decide (xs = ys) = true) := hid (fun h => decide_eq_true ((list_eq_iff hl).2 fun q hq => of_decide_eq_true (h q hq)))
  rw [← hl] at HV hvc ⊢
  generalize decide (xs = ys) = R at *
  generalize hxl : xs.length = L at *
  clear hxl hl
  go_enter Tryz.func216, Tryz.ntmps216
  generalize hLA : Code.loop _ = LA
  go_wp2_with fail
  subst hLA
  go_loopg [13] L (fun N i wr => ∃ q : Nat, q + N = L ∧ i = .int .i64 (q : Int) ∧ Hid (Below w.heap.size w wr) ∧ Hid (∀ j, j < q → decide (xs.getD j Cl.z = ys.getD j Cl.z) = true))
  case atStart => exact ⟨0, by omega, rfl, hid (Below.refl _ _), hid (fun j h => absurd h (by omega))⟩
  case round =>
   obtain ⟨q, hq, rfl, HB, HALL⟩ := hrel
   by_cases hp : 0 < gk
   ·obtain ⟨b, o, rfl, hb, hcell⟩ := HU.out (by omega)
    obtain ⟨b2, o2, rfl, hb2, hcell2⟩ := HV.out (by omega)
    have hbw : b < w.heap.size := by have : b < B := hb; omega
    have hbw2 : b2 < w.heap.size := by have : b2 < B := hb2; omega
    have e0 : wr.cell? ⟨b, o + q * 2, none⟩ = some (.bool (xs.getD q Cl.z).null) := (HB.out.cell (p := ⟨b, o + q * 2, none⟩) hbw).trans (hcell q (by omega) 0 (by omega))
    have e1 : wr.cell? ⟨b, o + q * 2 + 1, none⟩ = some (.string (xs.getD q Cl.z).text) := (HB.out.cell (p := ⟨b, o + q * 2 + 1, none⟩) hbw).trans (hcell q (by omega) 1 (by omega))
    have e2 : wr.cell? ⟨b2, o2 + q * 2, none⟩ = some (.bool (ys.getD q Cl.z).null) := (HB.out.cell (p := ⟨b2, o2 + q * 2, none⟩) hbw2).trans (hcell2 q (by omega) 0 (by omega))
    have e3 : wr.cell? ⟨b2, o2 + q * 2 + 1, none⟩ = some (.string (ys.getD q Cl.z).text) := (HB.out.cell (p := ⟨b2, o2 + q * 2 + 1, none⟩) hbw2).trans (hcell2 q (by omega) 1 (by omega))
    have HNOq := hid (HNO.out q (by omega))
    have HDEC := hid (cell_dec (xs.getD q Cl.z) (ys.getD q Cl.z))
    have HST : Hid (decide (xs.getD q Cl.z = ys.getD q Cl.z) = true → ∀ j, j < q + 1 → decide (xs.getD j Cl.z = ys.getD j Cl.z) = true) := hid (fun h j hj => by
     rcases Nat.lt_or_ge j q with h1 | h1
     ·exact HALL.out j h1
     ·obtain rfl : j = q := by omega
      exact h)
    clear hcell hcell2
    generalize xs.getD q Cl.z = c1 at *
    generalize ys.getD q Cl.z = c2 at *
    obtain ⟨n1, s1⟩ := c1
    obtain ⟨n2, s2⟩ := c2
    simp only at e0 e1 e2 e3 HDEC
    have hq1 : (q : Int) < (L : Int) := by omega
    rcases HDEC.out with ⟨hd, h1, h2⟩ | ⟨hd, h1 | ⟨h1, h2⟩⟩
    ·have HS2 := hid (HST.out hd)
     clear hd
     go_wp2
     go_region
     go_wp2
     go_roundg (gk - 1)
     case rel => exact ⟨q + 1, by omega, by go_num, hid (by have := HB.out; repeat' (first | (with_reducible exact Below.refl _ _) | (with_reducible assumption) | (with_reducible refine below_drewN ?_) | (with_reducible refine Below.alloc ?_ ?_ _) | (with_reducible refine Below.drew ?_) | (with_reducible refine Below.setCell ?_ ?_ _) | (with_reducible refine Below.trans ?_ (Below.mono (by with_reducible assumption) ?_)) | go_size)), HS2⟩
     case measure => omega
    ·have HRF := hid (HNOq.out hd)
     clear hd
     go_wp2
     go_region
     go_wp2
     go_ret
     exact ⟨ret_bool HRF.out.symm, by have := HB.out; repeat' (first | (with_reducible exact Below.refl _ _) | (with_reducible assumption) | (with_reducible refine below_drewN ?_) | (with_reducible refine Below.alloc ?_ ?_ _) | (with_reducible refine Below.drew ?_) | (with_reducible refine Below.setCell ?_ ?_ _) | (with_reducible refine Below.trans ?_ (Below.mono (by with_reducible assumption) ?_)) | go_size)⟩
    ·have HRF := hid (HNOq.out hd)
     clear hd
     go_wp2
     go_region
     go_wp2
     go_ret
     exact ⟨ret_bool HRF.out.symm, by have := HB.out; repeat' (first | (with_reducible exact Below.refl _ _) | (with_reducible assumption) | (with_reducible refine below_drewN ?_) | (with_reducible refine Below.alloc ?_ ?_ _) | (with_reducible refine Below.drew ?_) | (with_reducible refine Below.setCell ?_ ?_ _) | (with_reducible refine Below.trans ?_ (Below.mono (by with_reducible assumption) ?_)) | go_size)⟩
   ·obtain rfl : gk = 0 := by omega
    obtain rfl : q = L := by omega
    have HRT := hid (HYES.out HALL.out)
    go_wp2
    go_ret
    exact ⟨ret_bool HRT.out.symm, HB.out⟩
 ·have HR : Hid (decide (xs = ys) = false) := hid (decide_eq_false fun e => hl (by rw [e]))
  generalize decide (xs = ys) = R at *
  have hne : ((xs.length : Int) != (ys.length : Int)) = true := by simp; omega
  generalize xs.length = L at *
  generalize ys.length = M at *
  have hl' : ¬ (L : Int) = (M : Int) := by omega
  go_enter Tryz.func216, Tryz.ntmps216
  go_wp2
  go_ret
  exact ⟨ret_bool HR.out.symm, Below.refl _ _⟩
end Go.Proofs.YtaajpliifdlokaaGreatDoor

namespace Go.Proofs.YtaajpliifdlokaaGreatDoor
open Go.RowKit
def Fst (p : Nat → Bool) (n : Nat) (r : Int) : Prop := (r = -1 ∧ ∀ j, j < n → p j = false) ∨ ∃ i : Nat, r = (i : Int) ∧ i < n ∧ p i = true ∧ ∀ j, j < i → p j = false
theorem fst_any {p : Nat → Bool} {n : Nat} {r : Int} (h : Fst p n r) : decide (0 ≤ r) = (List.range n).any p := by
  rcases h with ⟨rfl, h⟩ | ⟨i, rfl, hi, h1, -⟩
  · rw [show (List.range n).any p = false from List.any_eq_false.2 fun j hj => by rw [h j (List.mem_range.1 hj)]; simp]
    decide
  · rw [show (List.range n).any p = true from List.any_eq_true.2 ⟨i, List.mem_range.2 hi, h1⟩]
    exact decide_eq_true (by omega)
def IntsAt (w : World) (B : Nat) (v : Value) (n : Nat) (g : Nat → Int) : Prop := InK 1 w (· < B) v n (fun i _ => .int .i64 (g i))
set_option maxRecDepth 100000 in
set_option maxHeartbeats 1000000 in
theorem idx_dist (v : Value) (n : Nat) (g : Nat → Int) (p : Nat → Bool) (tb : Nat) (ib : Nat) (B : Nat) (w : World) (hv : IntsAt w B v n g) (hB : B ≤ w.heap.size)
    (H : ∀ q, q < n → ∀ W, Below w.heap.size w W → Calls Tryz.prog 265 #[.int .i64 (g q), .pointer (some ⟨tb, 0, none⟩), .pointer (some ⟨ib, 0, none⟩)] W (Ret W (.bool (p q)))) :
    Calls Tryz.prog 259 #[v, .func (.func 265) #[] #[.pointer (some ⟨tb, 0, none⟩), .pointer (some ⟨ib, 0, none⟩)]] w (fun e w' => ∃ r, e = .returned (.int .i64 r) ∧ Fst p n r ∧ Below w.heap.size w w') := by
  obtain ⟨a, c, rfl, hc, hm, hr⟩ := hv
  have HR := hid hr
  have HH := hid H
  unfold maxLen at hm
  clear hr H
  go_enter Tryz.func259, Tryz.ntmps259
  go_wp2_with fail
  go_loopg [8] n (fun N i wr => ∃ q : Nat, q + N = n ∧ i = .int .i64 (q : Int) ∧ Hid (Below w.heap.size w wr) ∧ Hid (∀ j, j < q → p j = false))
  case atStart => exact ⟨0, by omega, rfl, hid (Below.refl _ _), hid (fun j h => absurd h (by omega))⟩
  case round =>
    obtain ⟨q, hq, rfl, HB, HALL⟩ := hrel
    by_cases hp : 0 < gk
    · obtain ⟨b, o, rfl, hb, hcell⟩ := HR.out (by omega)
      have hbw : b < w.heap.size := by have : b < B := hb; omega
      have k0 := (HB.out.cell (p := ⟨b, o + q, none⟩) hbw).trans (by have := hcell q (by omega) 0 (by omega); simp only [Nat.mul_one, Nat.add_zero] at this; exact this)
      have HVQ := hid (HH.out q (by omega) wr HB.out)
      have HST : Hid (p q = false → ∀ j, j < q + 1 → p j = false) := hid (fun h j hj => by
        rcases Nat.lt_or_ge j q with h1 | h1
        · exact HALL.out j h1
        · obtain rfl : j = q := by omega
          exact h)
      clear hcell
      go_wp2_with fail
      with_reducible refine HVQ.out.mono ?_
      rintro e w6 ⟨rfl, hb6⟩
      have HB6 := hid (HB.out.trans (hb6.mono HB.out.size))
      clear hb6 k0
      cases hpq : p q with
      | true =>
        have HPQ := hid hpq
        clear hpq
        go_wp2
        go_ret
        exact ⟨_, rfl, .inr ⟨q, rfl, by omega, HPQ.out, HALL.out⟩, HB6.out⟩
      | false =>
        have HS2 := hid (HST.out hpq)
        clear hpq
        go_wp2_with fail
        go_roundg (gk - 1)
        case rel => exact ⟨q + 1, by omega, by go_num, HB6, HS2⟩
        case measure => omega
    · obtain rfl : q = n := by omega
      go_wp2
      go_ret
      exact ⟨_, rfl, .inl ⟨rfl, HALL.out⟩, HB.out⟩
set_option maxHeartbeats 1000000 in
theorem has_dist (v : Value) (n : Nat) (g : Nat → Int) (p : Nat → Bool) (tb : Nat) (ib : Nat) (B : Nat) (w : World) (hv : IntsAt w B v n g) (hB : B ≤ w.heap.size)
    (H : ∀ q, q < n → ∀ W, Below w.heap.size w W → Calls Tryz.prog 265 #[.int .i64 (g q), .pointer (some ⟨tb, 0, none⟩), .pointer (some ⟨ib, 0, none⟩)] W (Ret W (.bool (p q)))) :
    Calls Tryz.prog 241 #[v, .func (.func 265) #[] #[.pointer (some ⟨tb, 0, none⟩), .pointer (some ⟨ib, 0, none⟩)]] w (Ret w (.bool ((List.range n).any p))) := by
  have HI := hid (idx_dist v n g p tb ib B w hv hB H)
  obtain ⟨a, c, rfl, -⟩ := hv
  clear H
  go_enter Tryz.func241, Tryz.ntmps241
  go_wp2_with fail
  with_reducible refine HI.out.mono ?_
  rintro e w1 ⟨r, rfl, hf, hb1⟩
  have HB1 := hid hb1
  have HF := hid (fst_any hf)
  clear hb1 hf
  go_wp2
  go_ret
  exact ⟨ret_bool HF.out, HB1.out⟩
set_option maxRecDepth 100000 in
set_option maxHeartbeats 1000000 in
theorem idx_can (v : Value) (n : Nat) (g : Nat → Int) (p : Nat → Bool) (fb : Nat) (B : Nat) (w : World) (hv : IntsAt w B v n g) (hB : B ≤ w.heap.size)
    (H : ∀ q, q < n → ∀ W, Below w.heap.size w W → Calls Tryz.prog 242 #[.int .i64 (g q), .pointer (some ⟨fb, 0, none⟩)] W (Ret W (.bool (p q)))) :
    Calls Tryz.prog 259 #[v, .func (.func 242) #[] #[.pointer (some ⟨fb, 0, none⟩)]] w (fun e w' => ∃ r, e = .returned (.int .i64 r) ∧ Fst p n r ∧ Below w.heap.size w w') := by
  obtain ⟨a, c, rfl, hc, hm, hr⟩ := hv
  have HR := hid hr
  have HH := hid H
  unfold maxLen at hm
  clear hr H
  go_enter Tryz.func259, Tryz.ntmps259
  go_wp2_with fail
  go_loopg [8] n (fun N i wr => ∃ q : Nat, q + N = n ∧ i = .int .i64 (q : Int) ∧ Hid (Below w.heap.size w wr) ∧ Hid (∀ j, j < q → p j = false))
  case atStart => exact ⟨0, by omega, rfl, hid (Below.refl _ _), hid (fun j h => absurd h (by omega))⟩
  case round =>
    obtain ⟨q, hq, rfl, HB, HALL⟩ := hrel
    by_cases hp : 0 < gk
    · obtain ⟨b, o, rfl, hb, hcell⟩ := HR.out (by omega)
      have hbw : b < w.heap.size := by have : b < B := hb; omega
      have k0 := (HB.out.cell (p := ⟨b, o + q, none⟩) hbw).trans (by have := hcell q (by omega) 0 (by omega); simp only [Nat.mul_one, Nat.add_zero] at this; exact this)
      have HVQ := hid (HH.out q (by omega) wr HB.out)
      have HST : Hid (p q = false → ∀ j, j < q + 1 → p j = false) := hid (fun h j hj => by
        rcases Nat.lt_or_ge j q with h1 | h1
        · exact HALL.out j h1
        · obtain rfl : j = q := by omega
          exact h)
      clear hcell
      go_wp2_with fail
      with_reducible refine HVQ.out.mono ?_
      rintro e w6 ⟨rfl, hb6⟩
      have HB6 := hid (HB.out.trans (hb6.mono HB.out.size))
      clear hb6 k0
      cases hpq : p q with
      | true =>
        have HPQ := hid hpq
        clear hpq
        go_wp2
        go_ret
        exact ⟨_, rfl, .inr ⟨q, rfl, by omega, HPQ.out, HALL.out⟩, HB6.out⟩
      | false =>
        have HS2 := hid (HST.out hpq)
        clear hpq
        go_wp2_with fail
        go_roundg (gk - 1)
        case rel => exact ⟨q + 1, by omega, by go_num, HB6, HS2⟩
        case measure => omega
    · obtain rfl : q = n := by omega
      go_wp2
      go_ret
      exact ⟨_, rfl, .inl ⟨rfl, HALL.out⟩, HB.out⟩
set_option maxHeartbeats 1000000 in
theorem has_can (v : Value) (n : Nat) (g : Nat → Int) (p : Nat → Bool) (fb : Nat) (B : Nat) (w : World) (hv : IntsAt w B v n g) (hB : B ≤ w.heap.size)
    (H : ∀ q, q < n → ∀ W, Below w.heap.size w W → Calls Tryz.prog 242 #[.int .i64 (g q), .pointer (some ⟨fb, 0, none⟩)] W (Ret W (.bool (p q)))) :
    Calls Tryz.prog 241 #[v, .func (.func 242) #[] #[.pointer (some ⟨fb, 0, none⟩)]] w (Ret w (.bool ((List.range n).any p))) := by
  have HI := hid (idx_can v n g p fb B w hv hB H)
  obtain ⟨a, c, rfl, -⟩ := hv
  clear H
  go_enter Tryz.func241, Tryz.ntmps241
  go_wp2_with fail
  with_reducible refine HI.out.mono ?_
  rintro e w1 ⟨r, rfl, hf, hb1⟩
  have HB1 := hid hb1
  have HF := hid (fst_any hf)
  clear hb1 hf
  go_wp2
  go_ret
  exact ⟨ret_bool HF.out, HB1.out⟩
set_option maxRecDepth 100000 in
set_option maxHeartbeats 1000000 in
theorem idx_keep (v : Value) (n : Nat) (g : Nat → Int) (p : Nat → Bool) (tb : Nat) (ob : Nat) (B : Nat) (w : World) (hv : IntsAt w B v n g) (hB : B ≤ w.heap.size)
    (H : ∀ q, q < n → ∀ W, Below w.heap.size w W → Calls Tryz.prog 264 #[.int .i64 (g q), .pointer (some ⟨tb, 0, none⟩), .pointer (some ⟨ob, 0, none⟩)] W (Ret W (.bool (p q)))) :
    Calls Tryz.prog 259 #[v, .func (.func 264) #[] #[.pointer (some ⟨tb, 0, none⟩), .pointer (some ⟨ob, 0, none⟩)]] w (fun e w' => ∃ r, e = .returned (.int .i64 r) ∧ Fst p n r ∧ Below w.heap.size w w') := by
  obtain ⟨a, c, rfl, hc, hm, hr⟩ := hv
  have HR := hid hr
  have HH := hid H
  unfold maxLen at hm
  clear hr H
  go_enter Tryz.func259, Tryz.ntmps259
  go_wp2_with fail
  go_loopg [8] n (fun N i wr => ∃ q : Nat, q + N = n ∧ i = .int .i64 (q : Int) ∧ Hid (Below w.heap.size w wr) ∧ Hid (∀ j, j < q → p j = false))
  case atStart => exact ⟨0, by omega, rfl, hid (Below.refl _ _), hid (fun j h => absurd h (by omega))⟩
  case round =>
    obtain ⟨q, hq, rfl, HB, HALL⟩ := hrel
    by_cases hp : 0 < gk
    · obtain ⟨b, o, rfl, hb, hcell⟩ := HR.out (by omega)
      have hbw : b < w.heap.size := by have : b < B := hb; omega
      have k0 := (HB.out.cell (p := ⟨b, o + q, none⟩) hbw).trans (by have := hcell q (by omega) 0 (by omega); simp only [Nat.mul_one, Nat.add_zero] at this; exact this)
      have HVQ := hid (HH.out q (by omega) wr HB.out)
      have HST : Hid (p q = false → ∀ j, j < q + 1 → p j = false) := hid (fun h j hj => by
        rcases Nat.lt_or_ge j q with h1 | h1
        · exact HALL.out j h1
        · obtain rfl : j = q := by omega
          exact h)
      clear hcell
      go_wp2_with fail
      with_reducible refine HVQ.out.mono ?_
      rintro e w6 ⟨rfl, hb6⟩
      have HB6 := hid (HB.out.trans (hb6.mono HB.out.size))
      clear hb6 k0
      cases hpq : p q with
      | true =>
        have HPQ := hid hpq
        clear hpq
        go_wp2
        go_ret
        exact ⟨_, rfl, .inr ⟨q, rfl, by omega, HPQ.out, HALL.out⟩, HB6.out⟩
      | false =>
        have HS2 := hid (HST.out hpq)
        clear hpq
        go_wp2_with fail
        go_roundg (gk - 1)
        case rel => exact ⟨q + 1, by omega, by go_num, HB6, HS2⟩
        case measure => omega
    · obtain rfl : q = n := by omega
      go_wp2
      go_ret
      exact ⟨_, rfl, .inl ⟨rfl, HALL.out⟩, HB.out⟩
end Go.Proofs.YtaajpliifdlokaaGreatDoor

namespace Go.Proofs.YtaajpliifdlokaaGreatDoor
open Go.RowKit
def GotRow (w : World) (L : Nat) (R : List Cl) (e : Ending) (w' : World) : Prop :=
  ∃ a c, e = .returned (.slice a L c) ∧ (∀ W, Below w'.heap.size w' W → RdCl W (· < W.heap.size) (.slice a L c) R) ∧ Below w.heap.size w w'
set_option maxRecDepth 100000 in
set_option maxHeartbeats 4000000 in
theorem expl_distinct1 (id : Int) (nm : ByteArray) (v : Value) (xs : List Co) (i k tb ib B : Nat) (w : World) (hv : RdCo w (· < B) v xs) (hB : B ≤ w.heap.size) (hi : ∀ x ∈ xs, i < x.cells.length) (hk : ∀ x ∈ xs, k < x.cells.length) (hl : xs.length ≤ 1048576)
  (ht : BoxN w tb 51 #[.int .i64 id, .string nm, v]) (hib : w.cell? ⟨ib, 0, none⟩ = some (.int .i64 (i : Int))) (hiz : ib < w.heap.size) :
  Calls Tryz.prog 265 #[.int .i64 (k : Int), .pointer (some ⟨tb, 0, none⟩), .pointer (some ⟨ib, 0, none⟩)] w (Ret w (.bool (decide (rowC xs i = rowC xs k)))) := by
 have hk' := fun W (hW : Below w.heap.size w W) => (hv.keep fun p (hp : p.block < B) => hW.cell (p := p) (by omega) : RdCo W (· < B) v xs)
 have hrow : ∀ (j : Nat), (∀ x ∈ xs, j < x.cells.length) → ∀ W, Below w.heap.size w W → Calls Tryz.prog 266 #[.agg #[.int .i64 id, .string nm, v], .int .i64 (j : Int)] W (GotRow W xs.length (rowC xs j)) := fun j hj W hW =>
  (expl_row id nm v xs j B W (hk' W hW) (Nat.le_trans hB hW.size) hj hl).mono fun e w' ⟨a, c, e1, h1, h2⟩ => ⟨a, c, e1, fun W' hW' => (h1.keep fun p hp => hW'.cell (p := p) hp.2).more fun b hb => Nat.lt_of_lt_of_le hb.2 hW'.size, h2⟩
 have HQ1 := hid (hrow i hi)
 have HQ2 := hid (hrow k hk)
 have HEQ := hid (fun u v W (hu : RdCl W (· < W.heap.size) u (rowC xs i)) (hv : RdCl W (· < W.heap.size) v (rowC xs k)) => equal_cells u v (rowC xs i) (rowC xs k) W.heap.size W hu hv (Nat.le_refl _))
 have hvs : ∃ va vc, v = .slice va xs.length vc := by
  obtain ⟨cv, ⟨a, c, e, -⟩, -⟩ := hv
  exact ⟨a, c, e⟩
 clear hrow hk' hv hi hk
 generalize decide (rowC xs i = rowC xs k) = R at *
 generalize rowC xs i = R1 at *
 generalize rowC xs k = R2 at *
 obtain ⟨va, vc, rfl⟩ := hvs
 generalize xs.length = L at *
 have HG := hid (fun W (hW : Below w.heap.size w W) => (⟨(ht.below hW ht.lt).cell 0 rfl, (ht.below hW ht.lt).cell 1 rfl, (ht.below hW ht.lt).cell 2 rfl, (hW.cell (p := ⟨ib, 0, none⟩) hiz).trans hib⟩ : W.cell? ⟨tb, 0, none⟩ = some (.int .i64 id) ∧ W.cell? ⟨tb, 1, none⟩ = some (.string nm) ∧ W.cell? ⟨tb, 2, none⟩ = some (.slice va L vc) ∧ W.cell? ⟨ib, 0, none⟩ = some (.int .i64 (i : Int))))
 have HC1 := hid (Below.refl w.heap.size w)
 have HDR : Hid (Below w.heap.size w w.drew) := hid (Below.refl w.heap.size w).drew
 clear ht hib
 go_enter Tryz.func265, Tryz.ntmps265
 go_upto_region 1 with fail
 go_region_held3 (fun w' => w'.cell? ⟨tb, 0, none⟩ = some (.int .i64 id) ∧ w'.cell? ⟨tb, 1, none⟩ = some (.string nm) ∧ w'.cell? ⟨tb, 2, none⟩ = some (.slice va L vc) ∧ w'.cell? ⟨ib, 0, none⟩ = some (.int .i64 (i : Int)))
  (first | exact HG.out _ (Below.refl _ _) | exact HG.out _ HDR.out | exact HG.out _ HC7.out | exact HG.out _ HC6.out | exact HG.out _ HC5.out | go_keep)
  (first
   | (go_at_call 266; go_must (first
     | ((with_reducible refine (HQ1.out _ (by first | (have h1 := HC6.out; have h2 := HC6.out.size; repeat' (first | (with_reducible exact Below.refl _ _) | (with_reducible assumption) | (with_reducible refine below_drewN ?_) | (with_reducible refine Below.alloc ?_ ?_ _) | (with_reducible refine Below.drew ?_) | (with_reducible refine Below.setCell ?_ ?_ _) | (with_reducible refine Below.trans ?_ (Below.mono (by with_reducible assumption) ?_)) | go_size)) | (have h1 := HC1.out; have h2 := HC1.out.size; repeat' (first | (with_reducible exact Below.refl _ _) | (with_reducible assumption) | (with_reducible refine below_drewN ?_) | (with_reducible refine Below.alloc ?_ ?_ _) | (with_reducible refine Below.drew ?_) | (with_reducible refine Below.setCell ?_ ?_ _) | (with_reducible refine Below.trans ?_ (Below.mono (by with_reducible assumption) ?_)) | go_size)))).mono ?_); rintro e w5 ⟨a5, c5, rfl, hrd5, hb5⟩; have HRD5 := hid hrd5; have HB5 := hid hb5; have HC5 : Hid (Below w.heap.size w w5) := hid (by first | (have h1 := HC6.out; have h2 := HC6.out.size; repeat' (first | (with_reducible exact Below.refl _ _) | (with_reducible assumption) | (with_reducible refine below_drewN ?_) | (with_reducible refine Below.alloc ?_ ?_ _) | (with_reducible refine Below.drew ?_) | (with_reducible refine Below.setCell ?_ ?_ _) | (with_reducible refine Below.trans ?_ (Below.mono (by with_reducible assumption) ?_)) | go_size)) | (have h1 := HC1.out; have h2 := HC1.out.size; repeat' (first | (with_reducible exact Below.refl _ _) | (with_reducible assumption) | (with_reducible refine below_drewN ?_) | (with_reducible refine Below.alloc ?_ ?_ _) | (with_reducible refine Below.drew ?_) | (with_reducible refine Below.setCell ?_ ?_ _) | (with_reducible refine Below.trans ?_ (Below.mono (by with_reducible assumption) ?_)) | go_size))); clear hb5 hrd5)
     | ((with_reducible refine (HQ2.out _ (by first | (have h1 := HC5.out; have h2 := HC5.out.size; repeat' (first | (with_reducible exact Below.refl _ _) | (with_reducible assumption) | (with_reducible refine below_drewN ?_) | (with_reducible refine Below.alloc ?_ ?_ _) | (with_reducible refine Below.drew ?_) | (with_reducible refine Below.setCell ?_ ?_ _) | (with_reducible refine Below.trans ?_ (Below.mono (by with_reducible assumption) ?_)) | go_size)) | (have h1 := HC1.out; have h2 := HC1.out.size; repeat' (first | (with_reducible exact Below.refl _ _) | (with_reducible assumption) | (with_reducible refine below_drewN ?_) | (with_reducible refine Below.alloc ?_ ?_ _) | (with_reducible refine Below.drew ?_) | (with_reducible refine Below.setCell ?_ ?_ _) | (with_reducible refine Below.trans ?_ (Below.mono (by with_reducible assumption) ?_)) | go_size)))).mono ?_); rintro e w6 ⟨a6, c6, rfl, hrd6, hb6⟩; have HRD6 := hid hrd6; have HB6 := hid hb6; have HC6 : Hid (Below w.heap.size w w6) := hid (by first | (have h1 := HC5.out; have h2 := HC5.out.size; repeat' (first | (with_reducible exact Below.refl _ _) | (with_reducible assumption) | (with_reducible refine below_drewN ?_) | (with_reducible refine Below.alloc ?_ ?_ _) | (with_reducible refine Below.drew ?_) | (with_reducible refine Below.setCell ?_ ?_ _) | (with_reducible refine Below.trans ?_ (Below.mono (by with_reducible assumption) ?_)) | go_size)) | (have h1 := HC1.out; have h2 := HC1.out.size; repeat' (first | (with_reducible exact Below.refl _ _) | (with_reducible assumption) | (with_reducible refine below_drewN ?_) | (with_reducible refine Below.alloc ?_ ?_ _) | (with_reducible refine Below.drew ?_) | (with_reducible refine Below.setCell ?_ ?_ _) | (with_reducible refine Below.trans ?_ (Below.mono (by with_reducible assumption) ?_)) | go_size))); clear hb6 hrd6)))
   | (go_at_call 216; go_must ((with_reducible refine (HEQ.out _ _ _ (HRD5.out _ (by first | exact HB6.out | exact Below.refl _ _)) (HRD6.out _ (by first | exact HB5.out | exact Below.refl _ _))).mono ?_); rintro e w7 ⟨rfl, hb7⟩; have HC7 : Hid (Below w.heap.size w w7) := hid (by first | exact HC6.out.trans (hb7.mono HC6.out.size) | exact HC5.out.trans (hb7.mono HC5.out.size)); clear hb7)))
 all_goals
  go_wp2
  go_ret
  exact ⟨rfl, HC7.out⟩
end Go.Proofs.YtaajpliifdlokaaGreatDoor
