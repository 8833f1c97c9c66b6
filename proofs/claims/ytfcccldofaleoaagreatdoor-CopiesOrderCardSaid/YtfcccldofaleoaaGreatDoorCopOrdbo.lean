/- The walk of CopiesOrder (under way). -/
import Derived.Test.YtfcccldofaleoaaGreatDoorCopOrdbg
import Derived.Test.YtfcccldofaleoaaGreatDoorCopOrdbm
import Derived.Test.YtfcccldofaleoaaGreatDoorCopOrdbl
import Derived.Test.YtfcccldofaleoaaGreatDoorCopOrdbn
namespace Go.Proofs.YtfcccldofaleoaaGreatDoor
open Go.RowKit

/-- the table while its columns get their numbers -/
structure TagSt (w wr : World) (g tb base : Nat) (id : Int) (nm : ByteArray) (v : Value) (xs : List Co) : Prop where
  box : BoxN wr tb 24 #[.int .i64 id, .string nm, v]
  own : CoSt wr base 30 v xs
  bel : Below w.heap.size w wr
  dice : KDice wr g
  low : base ≤ wr.heap.size
theorem TagSt.later {w wr W : World} {g tb base : Nat} {id : Int} {nm : ByteArray} {v : Value} {xs : List Co} (h : TagSt w wr g tb base id nm v xs) (hb : Below wr.heap.size wr W) (h0 : 0 < base) (hw : w.heap.size ≤ wr.heap.size) : TagSt w W g tb base id nm v xs :=
  ⟨h.box.below hb h.box.lt, h.own.roll (Roll.of_below hb 0) (Nat.le_refl _) h0, h.bel.trans (hb.mono hw), h.dice.below hb h.dice.lt, Nat.le_trans h.low hb.size⟩

set_option maxRecDepth 100000 in
set_option maxHeartbeats 4000000 in
theorem law36_order (a : Option Addr) (n c : Nat) (turn : Int) (w : World) (hA : RdI w w.heap.size a n c) (hT : Tabs w) (hP : Pow w) :
    Calls Tryz.prog 4 #[.slice a n c, .int .i64 turn] w (Ret w (.bool true)) := by
  have HA := hid hA
  have HT := hid hT
  have HP := hid hP
  have hnm : n ≤ maxLen := Nat.le_trans hA.1 hA.2.1
  clear hA hT hP
  by_cases hg : n ≤ 500
  · have HLI := hid (kit_Light a n c w hnm)
    rw [decide_eq_true hg] at HLI
    go_enter Tryz.func4, Tryz.ntmps4
    generalize hLA : Code.loop _ = LA
    go_wp2_with fail
    with_reducible refine HLI.out.mono ?_
    rintro e w0 ⟨rfl, rfl⟩
    clear HLI
    go_wp2_with fail
    with_reducible refine (kit_Roll a n c _ HA.out hg HP.out).mono ?_
    rintro e w1 ⟨rfl, hd1, hb1⟩
    have HD1 := hid hd1
    have HB1 := hid hb1
    have hz1 := hd1.lt
    clear hd1 hb1
    go_wp2_with fail
    with_reducible refine (kit_Table w.heap.size 1 w1 HD1.out).mono ?_
    rintro e w2 ⟨⟨tid, nm, xs⟩, v, rfl, rfl, hok, hco, hd2, hr2⟩
    simp only at hok hco
    have HOK := hid hok
    have HCO := hid hco
    have HD2 := hid hd2
    have hg0 := HD1.out.1.1
    have HB2 := hid (HB1.out.trans (hr2.below (B' := w.heap.size) (Nat.le_refl _) (by omega)))
    have hz2 := hr2.size
    obtain ⟨L0, hL0⟩ := hco.owns
    obtain ⟨va, vc, rfl⟩ := own_slice hL0
    have hl3 : xs.length ≤ 3 := hok.2.1
    clear hok hco hd2 hr2 hL0
    generalize hxl : xs.length = L at *
    have HXL := hid hxl
    clear hxl
    have hbx := BoxN.new w2 #[.int .i64 1, .string nm, .slice va L vc] 24
    have HBX := hid hbx
    have c2 := hbx.cell 2 rfl
    clear hbx
    go_wp2_with fail
    clear c2
    subst hLA
    have hst0 : TagSt w (w2.alloc (.cells #[.int .i64 1, .string nm, .slice va L vc] 24)) w.heap.size w2.heap.size w1.heap.size 1 nm (.slice va L vc) (tagN xs 0) := ⟨HBX.out, by rw [tagN_zero]; exact HCO.out.alloc _, HB2.out.alloc (by omega) _, HD2.out.alloc _, by simp; omega⟩
    have HST0 := hid hst0
    clear hst0
    generalize w2.alloc (.cells #[.int .i64 1, .string nm, .slice va L vc] 24) = W2 at *
    go_loopg [35] L (fun N i wr => ∃ q : Nat, i = .int .i64 (q : Int) ∧ q + N = L ∧ Hid (TagSt w wr w.heap.size w2.heap.size w1.heap.size 1 nm (.slice va L vc) (tagN xs q)))
    case atStart => exact ⟨0, rfl, by omega, HST0⟩
    case round =>
      obtain ⟨q, rfl, hq, HST⟩ := hrel
      have hlo := HST.out.low
      by_cases hp : 0 < gk
      · have hqL : q < L := by omega
        --[dev
        have HTL : Hid ((tagN xs q).length = L) := hid (by rw [tagN_len]; exact HXL.out)
        have hst := HST.out
        obtain ⟨cv, hN⟩ := HST.out.own
        have hrow := hN.row
        rw [HTL.out] at hrow
        obtain ⟨gb, cap, e3, hgb, hgz⟩ := hrow.form (by omega)
        obtain ⟨rfl, -, rfl⟩ := Value.slice.inj e3
        clear e3
        have k0 : wr.cell? ⟨gb, q * 2, none⟩ = some (.string ((tagN xs q).getD q Co.z).name) := by
          have h1 := hrow.cellAt (q * 2) (by omega)
          have h2 := flatK_at (k := 2) (f := coF (tagN xs q) cv) hqL (show 0 < 2 by omega)
          rw [Nat.add_zero] at h2
          exact h1.trans h2
        have hsz : ((tagN xs q).getD q Co.z).name.size ≤ 10 := by
          rw [tagN_name (by rw [HXL.out]; exact hqL)]
          obtain ⟨n', -, h3⟩ := HOK.out.2.2
          exact (kcolNames_ok _ (h3 _ (getD_mem (by rw [HXL.out]; exact hqL) Co.z)).1).1
        have HS1 := hid (HST.out.later (W := (wr.alloc (.cells #[.string ⟨#[48]⟩, .string ⟨#[49]⟩, .string ⟨#[50]⟩, .string ⟨#[51]⟩] 9)).drew) (by have h1 := Below.refl wr.heap.size wr; repeat' (first | (with_reducible exact Below.refl _ _) | (with_reducible assumption) | (with_reducible refine below_drewN ?_) | (with_reducible refine Below.alloc ?_ ?_ _) | (with_reducible refine Below.drew ?_) | (with_reducible refine Below.setCell ?_ ?_ _) | (with_reducible refine Below.trans ?_ (Below.mono (by with_reducible assumption) ?_)) | go_size)) (by omega) HST.out.bel.size) 
        have HSU := hid (tagN_succ (xs := xs) (q := q) (by rw [HXL.out]; exact hqL))
        have x2 : wr.cell? ⟨w2.heap.size, 2, none⟩ = some (.slice (some ⟨gb, 0, none⟩) L vc) := HST.out.box.cell 2 rfl
        have k1 : (wr.alloc (.cells #[.string ⟨#[48]⟩, .string ⟨#[49]⟩, .string ⟨#[50]⟩, .string ⟨#[51]⟩] 9)).cell? ⟨gb, q * 2, none⟩ = some (.string ((tagN xs q).getD q Co.z).name) := (World.cell?_alloc_lt _ _ ⟨gb, q * 2, none⟩ hgz).trans k0
        generalize ((tagN xs q).getD q Co.z).name = xn at *
        have f0 : (wr.alloc (.cells #[.string ⟨#[48]⟩, .string ⟨#[49]⟩, .string ⟨#[50]⟩, .string ⟨#[51]⟩] 9)).frozen? ⟨gb, q * 2, none⟩ = false := by
          rcases hrow.2 with ⟨h1, _⟩ | ⟨g', cap', cur, h1, _, hh, _⟩
          · cases h1
          · obtain ⟨e1, -, -⟩ := Value.slice.inj h1
            cases e1
            have h2 : (wr.alloc (.cells #[.string ⟨#[48]⟩, .string ⟨#[49]⟩, .string ⟨#[50]⟩, .string ⟨#[51]⟩] 9)).heap[gb]? = some (.cells cur 30 (0, 0)) := (Below.heap_alloc wr _ gb hgz).trans hh
            simp [World.frozen?, h2]
        have hcat : ∀ i, ¬ (9223372036854775807 < xn.size + (digT i).size) := fun i => by have : (digT i).size = 1 := rfl; omega
        have hgb2 : gb ≠ w2.heap.size := fun e => by
          rcases hrow.2 with ⟨h1, _⟩ | ⟨g', cap', cur, h1, _, hh, _⟩
          · cases h1
          · obtain ⟨e1, -, -⟩ := Value.slice.inj h1
            cases e1
            have h3 : wr.heap[w2.heap.size]? = some (.cells #[.int .i64 1, .string nm, .slice (some ⟨gb, 0, none⟩) L vc] 24 (0, 0)) := HST.out.box
            rw [← e, hh] at h3
            injection h3 with h4
            injection h4 with h5 h6
            exact absurd h6 (by decide)
        have hgne : gb ≠ wr.heap.size := by omega
        have HREL : Hid (TagSt w (((wr.setCell ⟨gb, q * 2, none⟩ (.string (xn ++ digT q))).alloc (.cells #[.string ⟨#[48]⟩, .string ⟨#[49]⟩, .string ⟨#[50]⟩, .string ⟨#[51]⟩] 9)).drew) w.heap.size w2.heap.size w1.heap.size 1 nm (.slice (some ⟨gb, 0, none⟩) L vc) (tagN xs (q + 1))) := hid (by
          have e : ((wr.alloc (.cells #[.string ⟨#[48]⟩, .string ⟨#[49]⟩, .string ⟨#[50]⟩, .string ⟨#[51]⟩] 9)).drew).setCell ⟨gb, q * 2, none⟩ (.string (xn ++ digT q)) = ((wr.setCell ⟨gb, q * 2, none⟩ (.string (xn ++ digT q))).alloc (.cells #[.string ⟨#[48]⟩, .string ⟨#[49]⟩, .string ⟨#[50]⟩, .string ⟨#[51]⟩] 9)).drew := by
            rw [World.setCell_drew, World.setCell_alloc_past _ _ _ _ hgz]
          rw [← e]
          have h := HS1.out.own.setName HTL.out.symm hqL (xn ++ digT q)
          rw [HSU.out] at h
          exact ⟨HS1.out.box.other (by show gb ≠ w2.heap.size; omega) _, h, HS1.out.bel.setCell (by show w.heap.size ≤ gb; omega) _, HS1.out.dice.store (by show w.heap.size < gb; omega) _, by simp; omega⟩)
        obtain ⟨q1, hq1⟩ : ∃ q1, q1 = q + 1 := ⟨_, rfl⟩
        rw [← hq1] at HREL
        have hcat0 := hcat 0
        have hcat1 := hcat 1
        have hcat2 := hcat 2
        have x3 : (wr.alloc (.cells #[.string ⟨#[48]⟩, .string ⟨#[49]⟩, .string ⟨#[50]⟩, .string ⟨#[51]⟩] 9)).cell? ⟨w2.heap.size, 2, none⟩ = some (.slice (some ⟨gb, 0, none⟩) L vc) := HS1.out.box.cell 2 rfl
        clear hst hN hrow hcat
        rcases (show q = 0 ∨ q = 1 ∨ q = 2 by omega) with rfl | rfl | rfl
        all_goals
          go_upto_region 8 with fail
          go_region
          go_wp2
          go_roundg (gk - 1)
          case rel => exact ⟨q1, by subst hq1; go_num, by omega, HREL⟩
          case measure => omega
        --dev]
      · obtain rfl : gk = 0 := by omega
        obtain rfl : q = L := by omega
        obtain ⟨hnm1, hlen, n0, hn0, hcv0⟩ := tagN_valid HOK.out
        have hnd := tagN_nodup (xs := xs) (by rw [HXL.out]; omega)
        simp only at hlen hcv0
        rw [HXL.out] at hnd hlen hcv0
        have hyl : (tagN xs q).length = q := by rw [tagN_len]; exact HXL.out
        generalize tagN xs q = ys at *
        obtain ⟨hcv, hn4⟩ := colsV_rows hcv0 hn0
        have HYV : Hid (TabV ⟨1, nm, ys⟩) := hid ⟨by show (0 : Int) ≤ 1; omega, by show (1 : Int) ≤ 1073741824; omega, hnm1, hlen, n0, hn0, hcv0⟩
        have HND := hid hnd
        have HYL := hid hyl
        have HCV := hid hcv
        have HRR := hid (show rowsC ys = rowsC ys from rfl)
        have HRO := ref03_Rows 1 nm (.slice va q vc) ys wr.heap.size wr (HST.out.own.read.more fun b hb => hb.2) (Nat.le_refl _)
        generalize hn : rowsC ys = n at HRO hn4 HCV
        have HN := hid hn
        have b0 := HST.out.box.cell 0 rfl
        have b1 := HST.out.box.cell 1 rfl
        have b2 := HST.out.box.cell 2 rfl
        clear hnm1 hlen hn0 hcv0 hcv hnd hyl hn HRR
        go_wp2_with fail
        with_reducible refine HRO.mono ?_
        rintro e w4 ⟨rfl, hb4⟩
        have HS4 := hid (HST.out.later hb4 (by have := HD2.out.lt; omega) HST.out.bel.size)
        have hz4 := hb4.size
        clear b0 b1 b2 hb4 HRO HST
        have b0 := HS4.out.box.cell 0 rfl
        have b1 := HS4.out.box.cell 1 rfl
        have b2 := HS4.out.box.cell 2 rfl
        have HX5 := hid (HS4.out.box.alloc (.cells #[.int .i64 2, .string ⟨#[]⟩, .slice none 0 0] 24))
        have HB5 := hid (BoxN.new w4 #[.int .i64 2, .string ⟨#[]⟩, .slice none 0 0] 24)
        have HL5 := hid ((Below.refl w4.heap.size w4).alloc (Nat.le_refl _) (.cells #[.int .i64 2, .string ⟨#[]⟩, .slice none 0 0] 24))
        have hz5 : (w4.alloc (.cells #[.int .i64 2, .string ⟨#[]⟩, .slice none 0 0] 24)).heap.size = w4.heap.size + 1 := by simp
        have b5 := HX5.out.cell 2 rfl
        go_wp2_with fail
        generalize w4.alloc (.cells #[.int .i64 2, .string ⟨#[]⟩, .slice none 0 0] 24) = W5 at *
        have HW5 := hid hz5
        clear b0 b1 b2 b5
        obtain ⟨s, hs, HM4⟩ := kit_ModN turn 4 (by omega) (by omega)
        obtain ⟨t, ht, HM7⟩ := kit_ModN (IntKind.i64.wrap (Int.tdiv turn 4)) 7 (by omega) (by omega)
        have hs4 : s < 4 := by omega
        have ht7 : t < 7 := by omega
        have HM4 := hid HM4
        have HM7 := hid HM7
        clear hs ht
        obtain ⟨cv, ⟨ra, rc, e5, -, -, hr5⟩, hcl5⟩ := HS4.out.own.read
        rw [HYL.out] at e5 hr5 hcl5
        obtain ⟨rfl, -, rfl⟩ := Value.slice.inj e5
        have HR := hid hr5
        have HCL := hid hcl5
        have HCQ := hid (fun k (hk : k < q) => (HCV.out _ (getD_mem (by rw [HYL.out]; exact hk) Co.z)).2.1)
        obtain ⟨i0, hi, hy0, hy1, hy2⟩ := info_parts info_col
        obtain ⟨j0, hj, hj0, hj1, hj2⟩ := info_parts info_cell
        clear hr5 hcl5 e5
        go_loopg [58] q (fun N i wr => ∃ (p : Nat) (y : Value), i = .int .i64 (p : Int) ∧ p + N = q ∧ Hid (ToSt w4 W5 wr w4.heap.size W5.heap.size 2 ⟨#[]⟩ y (trnL ys ((rotL q s).take p) (rotL n t))))
        case atStart => exact ⟨0, .slice none 0 0, rfl, by omega, hid ⟨HL5.out, HB5.out, CoSt.start (Nat.le_refl _), Nat.le_refl _, fun _ _ _ => rfl⟩⟩
        case round =>
          obtain ⟨p, y, rfl, hpL, HST⟩ := hrel
          have hlo := HST.out.low
          have hwr := HST.out.bel.size
          have HPL : Hid ((trnL ys ((rotL q s).take p) (rotL n t)).length = p) := hid (by rw [trnL_len, List.length_take, rotL_len]; omega)
          by_cases hpp : 0 < gk
          · have hpq : p < q := by omega
            --[dev
            obtain ⟨k, hk⟩ : ∃ k, k = (p + s) % q := ⟨_, rfl⟩
            have hkq : k < q := by rw [hk]; exact Nat.mod_lt _ (by omega)
            have HSNq : Hid (trnL ys ((rotL q s).take (p + 1)) (rotL n t) = trnL ys ((rotL q s).take p) (rotL n t) ++ [trnC ys (rotL n t) k]) := hid (by rw [trnL_snoc (by rw [rotL_len]; exact hpq), rotL_at hpq, hk])
            have hmod : Int.tmod (IntKind.i64.wrap ((p : Int) + (s : Int))) (q : Int) = (k : Int) := by rw [IntWalk.i64_in _ (by omega), hk]; exact tmod_nat (p + s) q
            have hmod2 : ((p : Int) + (s : Int)) % (q : Int) = (k : Int) := by rw [hk]; rfl
            have hq0 : ¬ (q = 0) := by omega
            have hkqi : (k : Int) < (q : Int) := by omega
            clear hk
            obtain ⟨ba, oa, rfl, hba, hcella⟩ := HR.out (by omega)
            have hba' : ba < w4.heap.size := hba.2
            have k1 : wr.cell? ⟨ba, oa + k * 2, none⟩ = some (.string (ys.getD k Co.z).name) := (HST.out.bel.cell (p := ⟨ba, oa + k * 2, none⟩) hba').trans (hcella k hkq 0 (by omega))
            have k2 : wr.cell? ⟨ba, oa + k * 2 + 1, none⟩ = some (cv k) := (HST.out.bel.cell (p := ⟨ba, oa + k * 2 + 1, none⟩) hba').trans (hcella k hkq 1 (by omega))
            have HRQ := hid (HCL.out k hkq)
            obtain ⟨ca, ck, hcq, -, hckm, -⟩ := HCL.out k hkq
            have hcn := HCQ.out k hkq
            rw [hcq, hcn] at k2
            rw [hcq] at HRQ
            have HTC : Hid (trnC ys (rotL n t) k = ⟨(ys.getD k Co.z).name, pickL (ys.getD k Co.z).cells (rotL n t)⟩) := hid rfl
            clear hcella hcq
            generalize ys.getD k Co.z = x at *
            obtain ⟨xn, xc⟩ := x
            simp only at k1 k2 HRQ hcn HTC
            have HCN := hid hcn
            rw [hcn] at HRQ
            clear hcn
            have HBXw := hid (HS4.out.box.below HST.out.bel HS4.out.box.lt)
            have b0 := HBXw.out.cell 0 rfl
            have b1 := HBXw.out.cell 1 rfl
            have b2 := HBXw.out.cell 2 rfl
            have hz0 : (wr.alloc (.cells #[.string ⟨#[]⟩, .slice none 0 0] 30)).cell? ⟨ba, oa + k * 2, none⟩ = some (.string xn) := (World.cell?_alloc_lt _ _ ⟨ba, oa + k * 2, none⟩ (by show ba < wr.heap.size; omega)).trans k1
            have hz1 : (wr.alloc (.cells #[.string ⟨#[]⟩, .slice none 0 0] 30)).cell? ⟨ba, oa + k * 2 + 1, none⟩ = some (.slice ca n ck) := (World.cell?_alloc_lt _ _ ⟨ba, oa + k * 2 + 1, none⟩ (by show ba < wr.heap.size; omega)).trans k2
            have b3 : (wr.alloc (.cells #[.string ⟨#[]⟩, .slice none 0 0] 30)).cell? ⟨w2.heap.size, 2, none⟩ = some (.slice (some ⟨ba, oa, none⟩) q vc) := (World.cell?_alloc_lt _ _ ⟨w2.heap.size, 2, none⟩ (by have := HBXw.out.lt; exact this)).trans b2
            generalize hLC : Code.loop _ = LC
            go_upto_region 15 with fail
            go_region_held3 (fun w' => w'.cell? ⟨w2.heap.size, 2, none⟩ = some (.slice (some ⟨ba, oa, none⟩) q vc) ∧ w'.cell? ⟨ba, oa + k * 2, none⟩ = some (.string xn) ∧ w'.cell? ⟨ba, oa + k * 2 + 1, none⟩ = some (.slice ca n ck))
              (first | exact ⟨b2, k1, k2⟩ | exact ⟨b3, hz0, hz1⟩ | go_keep)
              (first | (go_at_call 24; go_must (((with_reducible refine (HM4.out _).mono ?_); rintro e w5 ⟨rfl, rfl⟩))))
            all_goals
              obtain ⟨wo, rfl⟩ : ∃ wo, wo = wr := ⟨wr, rfl⟩
              have HST0 := hid (HST.out.later (W' := (wo.alloc (.cells #[.string xn, .slice ca n ck] 30)).drew) (by have h1 := Below.refl wo.heap.size wo; repeat' (first | (with_reducible exact Below.refl _ _) | (with_reducible assumption) | (with_reducible refine below_drewN ?_) | (with_reducible refine Below.alloc ?_ ?_ _) | (with_reducible refine Below.drew ?_) | (with_reducible refine Below.setCell ?_ ?_ _) | (with_reducible refine Below.trans ?_ (Below.mono (by with_reducible assumption) ?_)) | go_size)) hwr (by omega))
              have hcb := (show BoxN (wo.alloc (.cells #[.string xn, .slice ca n ck] 30)).drew wo.heap.size 30 #[.string xn, .slice ca n ck] from BoxN.new wo _ _)
              have hz5 : wo.heap.size < (wo.alloc (.cells #[.string xn, .slice ca n ck] 30)).drew.heap.size := Nat.lt_of_lt_of_eq (Nat.lt_succ_self _) (World.size_alloc wo _).symm
              clear b0 b1 b2 b3 hz0 hz1 k1 k2 hmod hmod2
              generalize (wo.alloc (.cells #[.string xn, .slice ca n ck] 30)).drew = wp at *
              have HCB := hid (hcb.alloc (.cells #[.string xn, .slice none 0 0] 30))
              have HXB := hid (BoxN.new wp #[.string xn, .slice none 0 0] 30)
              have HBO := hid ((Below.refl wp.heap.size wp).alloc (Nat.le_refl _) (.cells #[.string xn, .slice none 0 0] 30))
              have hz6 : wp.heap.size < (wp.alloc (.cells #[.string xn, .slice none 0 0] 30)).heap.size := Nat.lt_of_lt_of_eq (Nat.lt_succ_self _) (World.size_alloc wp _).symm
              have e0 := hcb.cell 0 rfl
              have hwp := HST0.out.bel.size
              have hlp := HST0.out.low
              clear hcb
              go_wp2_with fail
              generalize wp.alloc (.cells #[.string xn, .slice none 0 0] 30) = W6 at *
              subst hLC
              clear e0
              go_loopg [77] n (fun N i wr => ∃ (r : Nat) (z : Value), i = .int .i64 (r : Int) ∧ r + N = n ∧ Hid (GrowSt wp W6 wr wp.heap.size W6.heap.size 30 (fun s => #[.string xn, s]) 58 2 z r (flatK 2 r (clF (pickL xc ((rotL n t).take r))))))
              case atStart => exact ⟨0, .slice none 0 0, rfl, by omega, hid ⟨HBO.out, HXB.out, World.ownsRow_nil _ _ _ _, Nat.le_refl _, fun _ _ _ => rfl⟩⟩
              case round =>
                obtain ⟨r, z, rfl, hrq, HG⟩ := hrel
                have hlo2 := HG.out.low
                by_cases hrp : 0 < gk
                · have hrn : r < n := by omega
                  obtain ⟨m, hm⟩ : ∃ m, m = (r + t) % n := ⟨_, rfl⟩
                  have hmn : m < n := by rw [hm]; exact Nat.mod_lt _ (by omega)
                  have HTNr : Hid ((rotL n t).take (r + 1) = (rotL n t).take r ++ [m]) := hid (by rw [takeN_snoc (by rw [rotL_len]; exact hrn), rotL_at hrn, hm])
                  have hmod : Int.tmod (IntKind.i64.wrap ((r : Int) + (t : Int))) (n : Int) = (m : Int) := by rw [IntWalk.i64_in _ (by omega), hm]; exact tmod_nat (r + t) n
                  have hmod2 : ((r : Int) + (t : Int)) % (n : Int) = (m : Int) := by rw [hm]; rfl
                  have hn0 : ¬ (n = 0) := by omega
                  have hmni : (m : Int) < (n : Int) := by omega
                  clear hm
                  have HB5 := hid (HST0.out.bel.trans (HG.out.bel.mono hwp))
                  obtain ⟨_, _, e9, -, -, h9⟩ := HRQ.out
                  obtain ⟨rfl, -, rfl⟩ := Value.slice.inj e9
                  obtain ⟨b2, o2, rfl, hb2, hcell2⟩ := h9 (by have := HCN.out; omega)
                  have hb2' : b2 < w4.heap.size := hb2.2
                  have m0 : wr.cell? ⟨b2, o2 + m * 2, none⟩ = some (.bool (xc.getD m Cl.z).null) := (HB5.out.cell (p := ⟨b2, o2 + m * 2, none⟩) hb2').trans (hcell2 m (by have := HCN.out; omega) 0 (by omega))
                  have m1 : wr.cell? ⟨b2, o2 + m * 2 + 1, none⟩ = some (.string (xc.getD m Cl.z).text) := (HB5.out.cell (p := ⟨b2, o2 + m * 2 + 1, none⟩) hb2').trans (hcell2 m (by have := HCN.out; omega) 1 (by omega))
                  clear hcell2 e9 h9
                  have HPK : Hid (pickL xc ((rotL n t).take (r + 1)) = pickL xc ((rotL n t).take r) ++ [xc.getD m Cl.z]) := hid (by
                    unfold pickL
                    rw [HTNr.out, List.map_append, List.map_singleton])
                  have HPQ : Hid ((pickL xc ((rotL n t).take r)).length = r) := hid (by unfold pickL; rw [List.length_map, List.length_take, rotL_len]; omega)
                  generalize xc.getD m Cl.z = cc at *
                  obtain ⟨cn, ct⟩ := cc
                  simp only at m0 m1
                  have hcb6 := ((HG.out.keep wo.heap.size (by omega) (by omega)).trans HCB.out)
                  have d1 : wr.cell? ⟨wo.heap.size, 1, none⟩ = some (.slice (some ⟨b2, o2, none⟩) n ck) := (show BoxN wr wo.heap.size _ _ from hcb6).cell 1 rfl
                  have s2 : wr.cell? ⟨wp.heap.size, 1, none⟩ = some z := HG.out.box.cell 1 rfl
                  have sf2 := HG.out.box.frozen 1
                  have HOWN := hid HG.out.own
                  obtain ⟨za, zc, rfl⟩ := own_slice HG.out.own
                  have HO1 := hid ((HOWN.out.alloc (.cells #[.bool cn, .string ct] 58)).drew)
                  have HN1 := hid (show BoxN (wr.alloc (.cells #[.bool cn, .string ct] 58)).drew wr.heap.size 58 #[.bool cn, .string ct] from BoxN.new wr _ _)
                  have hbz := HG.out.bel.size
                  have HS1 := hid (HG.out.later (W' := (wr.alloc (.cells #[.bool cn, .string ct] 58)).drew) (by have h1 := Below.refl wr.heap.size wr; repeat' (first | (with_reducible exact Below.refl _ _) | (with_reducible assumption) | (with_reducible refine below_drewN ?_) | (with_reducible refine Below.alloc ?_ ?_ _) | (with_reducible refine Below.drew ?_) | (with_reducible refine Below.setCell ?_ ?_ _) | (with_reducible refine Below.trans ?_ (Below.mono (by with_reducible assumption) ?_)) | go_size)) hbz)
                  have s3 : (wr.alloc (.cells #[.bool cn, .string ct] 58)).cell? ⟨wp.heap.size, 1, none⟩ = some (.slice za r zc) := HS1.out.box.cell 1 rfl
                  clear hcb6
                  go_upto_region 20 with fail
                  go_region_law (first
                    | (go_simp; go_at_call 24; go_must (((with_reducible refine (HM7.out _).mono ?_); rintro e w5 ⟨rfl, rfl⟩)))
                    | ((refine step_append_form _ rfl (.tmp 81) (.tmp 93) 28 28 rfl W6.heap.size 58 58 j0 (.agg #[.bool false, .string ⟨#[]⟩]) 2 24 Tryz.underlying28 Tryz.underlying28 hj hj0 hj1 hj2 rfl (by decide) (.slice za r zc) r _ rfl HO1.out (some ⟨wr.heap.size, 0, none⟩) 1 1 [.bool cn, .string ct] rfl rfl (fun _ => ⟨_, rfl, World.news_of_block HN1.out⟩) (by intro u hu; simp at hu; rcases hu with rfl | rfl <;> rfl) (by omega) (by unfold maxLen; omega) (by omega) (by simp; omega) ?_); intro p7 cap7 w7 hown7 hg7 hat7 hlt7; have hbx7 := HS1.out.box.grown hg7 (fun e => by have := HOWN.out.lt _ e.symm; omega); have q1 : w7.cell? ⟨wp.heap.size, 1, none⟩ = some (.slice za r zc) := hbx7.cell 1 rfl; have fq1 := hbx7.frozen 1; have HG7 := hid hg7; have HOWN7 := hid hown7; clear hown7 hg7 hat7 hbx7))
                  all_goals
                    clear q1 fq1 s3 s2 sf2 d1 m0 m1 hmod hmod2
                    go_wp2
                    go_roundg (gk - 1)
                    case rel => exact ⟨r + 1, _, by go_num, by omega, hid (by rw [HPK.out]; exact HS1.out.push (by have h1 := cl_push (pickL xc ((rotL n t).take r)) ⟨cn, ct⟩; rw [HPQ.out, List.length_append, List.length_singleton, HPQ.out] at h1; rw [← h1]; exact HOWN7.out) HG7.out 1 rfl (by omega) (by omega))⟩
                    case measure => omega
                · obtain rfl : gk = 0 := by omega
                  obtain rfl : r = n := by omega
                  obtain ⟨pc, hpc⟩ : ∃ pc, pc = pickL xc (rotL r t) := ⟨_, rfl⟩
                  have HPQ : Hid (pickL xc ((rotL r t).take r) = pc) := hid (by rw [List.take_of_length_le (by rw [rotL_len]; omega), hpc])
                  have hpl : pc.length = r := by rw [hpc]; unfold pickL; rw [List.length_map, rotL_len]
                  have hTC := HTC.out
                  rw [← hpc] at hTC
                  have HTC2 := hid hTC
                  clear hTC hpc
                  have hgo := HG.out.own
                  rw [HPQ.out] at hgo
                  have HGO := hid hgo
                  have HPL2 := hid hpl
                  obtain ⟨za, zc, rfl⟩ := own_slice hgo
                  have hbz := HG.out.bel.size
                  have HST5 := hid (HST0.out.later HG.out.bel hwp (by omega))
                  obtain ⟨L0, hL0⟩ := HST5.out.own.owns
                  rw [HPL.out] at hL0
                  obtain ⟨ya, yc, rfl⟩ := own_slice hL0
                  have HL0 := hid hL0
                  have HYB : Hid (∀ k, (Value.slice ya p yc).ownBlock = some k → k < wp.heap.size) := hid (fun k hk => by
                    obtain ⟨L1, hL1⟩ := HST0.out.own.owns
                    exact (hL1.lt k hk).2)
                  clear hgo hpl hL0
                  have s0 : wr.cell? ⟨w4.heap.size, 2, none⟩ = some (.slice ya p yc) := HST5.out.box.cell 2 rfl
                  have x0 : wr.cell? ⟨wp.heap.size, 0, none⟩ = some (.string xn) := HG.out.box.cell 0 rfl
                  have x1 : wr.cell? ⟨wp.heap.size, 1, none⟩ = some (.slice za r zc) := HG.out.box.cell 1 rfl
                  have HST6 := hid (HST5.out.later (W' := wr.alloc (.cells #[.string xn, .slice za r zc] 30)) ((Below.refl _ _).alloc (Nat.le_refl _) _) HST5.out.bel.size (by omega))
                  have HL6 := hid (HL0.out.alloc (.cells #[.string xn, .slice za r zc] 30))
                  have HN6 := hid (BoxN.new wr #[.string xn, .slice za r zc] 30)
                  have s6 : (wr.alloc (.cells #[.string xn, .slice za r zc] 30)).cell? ⟨w4.heap.size, 2, none⟩ = some (.slice ya p yc) := HST6.out.box.cell 2 rfl
                  have HNEW : Hid (RdCl (wr.alloc (.cells #[.string xn, .slice za r zc] 30)) (Own (wr.alloc (.cells #[.string xn, .slice za r zc] 30)) W5.heap.size (.slice ya p yc)) (.slice za r zc) (pc)) := hid (by
                    have h1 := HGO.out
                    rw [← HPL2.out] at h1
                    have h2 := rdCl_of_own h1
                    have h3 : RdCl wr (fun b => W6.heap.size ≤ b ∧ b < wr.heap.size) (.slice za r zc) (pc) := by rw [← HPL2.out]; exact h2
                    refine (h3.keep (fun p hp => World.cell?_alloc_lt _ _ _ hp.2)).more fun b hb => ⟨by have := hb.1; omega, by have := hb.2; simp; omega, fun e => by have := HYB.out _ e; have := hb.1; omega⟩)
                  have hwr6 := HST5.out.bel.size
                  have hlo5 := HST5.out.low
                  go_wp2_with (at_builtin; refine wpList_append_form _ rfl _ _ 22 22 rfl W5.heap.size 30 30 i0 (.agg #[.string ⟨#[]⟩, .slice none 0 0]) 2 40 Tryz.underlying22 Tryz.underlying22 hi hy0 hy1 hy2 rfl (by decide) (.slice ya p yc) p _ rfl HL6.out (some ⟨_, 0, none⟩) 1 1 [.string xn, .slice za r zc] rfl rfl (fun _ => ⟨_, rfl, World.news_of_block HN6.out⟩) (by intro u hu; simp at hu; rcases hu with rfl | rfl <;> rfl) (by omega) (by unfold maxLen; omega) (by omega) (by simp; omega) ?_; intro p8 cap8 w8 hown8 hg8 hat8 hlt8; have hbx8 := HST6.out.box.grown hg8 (fun e => by have := HL6.out.lt _ e.symm; omega); have q1 : w8.cell? ⟨w4.heap.size, 2, none⟩ = some (.slice ya p yc) := hbx8.cell 2 rfl; have fq1 := hbx8.frozen 2; have HG8 := hid hg8; have HOWN8 := hid hown8; have HAT8 := hid hat8; clear hown8 hg8 hat8 hbx8)
                  clear q1 fq1 s0 s6 x0 x1
                  go_wp2
                  go_roundg (gk - 1)
                  case rel => exact ⟨p + 1, _, by go_num, by omega, hid (by rw [HSNq.out, HTC2.out]; exact HST6.out.push (x := ⟨xn, pc⟩) (by rw [HPL.out]) (by rw [HPL.out]; exact HL6.out) HOWN8.out HG8.out HAT8.out HNEW.out (by omega) (by omega))⟩
                  case measure => omega
            --dev]
          · obtain rfl : gk = 0 := by omega
            obtain rfl : p = q := by omega
            have hst := HST.out
            rw [List.take_of_length_le (show (rotL p s).length ≤ p by rw [rotL_len]; exact Nat.le_refl _)] at hst
            have hTA := HS4.out.later hst.bel (by omega) HS4.out.bel.size
            have HAT : Hid (TabsAt w.heap.size wr) := hid ⟨w, HT.out, Nat.le_refl _, hTA.bel⟩
            have HDR := hid (kit_Derived w.heap.size ⟨1, nm, ys⟩ (.slice va p vc) 3 wr hTA.dice HAT.out HYV.out (hTA.own.read.more fun b hb => ⟨hb.2, by have := hb.1; omega⟩))
            have HZR := hid (hst.own.read)
            have hzl : (trnL ys (rotL p s) (rotL n t)).length = p := by rw [trnL_len, rotL_len]
            obtain ⟨L1, hL1⟩ := hst.own.owns
            rw [hzl] at hL1
            obtain ⟨ya, yc, rfl⟩ := own_slice hL1
            have HTA := hid hTA
            have HBB := hid hst.box
            have HBW := hid hst.bel
            have b0 := hTA.box.cell 0 rfl
            have b1 := hTA.box.cell 1 rfl
            have b2 := hTA.box.cell 2 rfl
            have hzr := hst.bel.size
            clear hst hTA hzl hL1 HST
            go_wp2_with fail
            with_reducible refine HDR.out.mono ?_
            clear b0 b1 b2 HDR
            rintro e w5 ⟨nc, cs, vC, rfl, htw, hco, hd5, hr5⟩
            obtain ⟨L2, hL2⟩ := hco.owns
            obtain ⟨lc, hlc⟩ : ∃ lc, lc = cs.length := ⟨_, rfl⟩
            rw [← hlc] at hL2
            obtain ⟨vCa, vCc, rfl⟩ := own_slice hL2
            clear hlc hL2
            have HO5 : Hid (OrdSt w (w5.alloc (.cells #[.int .i64 3, .string nc, .slice vCa lc vCc] 24)) w2.heap.size w4.heap.size w5.heap.size (.slice va p vc) (.slice ya p yc) (.slice vCa lc vCc) nm nc ys (trnL ys (rotL p s) (rotL n t)) cs) := hid (by
              have hz5 := hr5.size
              have hlt := HS4.out.box.lt
              have hzw5 := HW5.out
              refine ⟨(HTA.out.bel.trans (hr5.below (B' := w.heap.size) (Nat.le_refl _) (by omega))).alloc (by have := HTA.out.bel.size; omega) _, ⟨(HTA.out.box.roll hr5 HTA.out.box.lt (by omega)).alloc _, ?_⟩, ⟨(HBB.out.roll hr5 HBB.out.lt (by omega)).alloc _, ?_⟩, ⟨BoxN.new w5 _ _, ?_⟩⟩
              · exact (HTA.out.own.read.keep fun p hp => (World.cell?_alloc_lt _ _ _ (Nat.lt_of_lt_of_le hp.2 hz5)).trans (hr5.cell hp.2 (by have := hp.1; omega))).more fun b hb => by have := hb.2; simp; omega
              · exact (HZR.out.keep fun p hp => (World.cell?_alloc_lt _ _ _ (Nat.lt_of_lt_of_le hp.2 hz5)).trans (hr5.cell hp.2 (by have := hp.1; omega))).more fun b hb => by have := hb.2; simp; omega
              · exact (hco.read.keep fun p hp => World.cell?_alloc_lt _ _ _ hp.2).more fun b hb => by have := hb.2; simp; omega)
            obtain ⟨P1, P2, Q2, z, hP1, hz0, hs1, hs2, hs3, hs4, hcmp⟩ := ord_scores w w2.heap.size w4.heap.size w5.heap.size (.slice va p vc) (.slice ya p yc) (.slice vCa lc vCc) nm nc ys cs p n s t HT.out HYL.out HYV.out (htw.tab (by omega) (by omega)) HCV.out HN.out hn4 HND.out
            have HS1 := hid hs1
            have HS2 := hid hs2
            have HS3 := hid hs3
            have HS4' := hid hs4
            have HCM := hid hcmp
            have HP1 := hid hP1
            clear htw hco hd5 hr5 hs1 hs2 hs3 hs4 hcmp hP1 HTA HZR HBB HYV HYL HCV HND
            generalize trnL ys (rotL p s) (rotL n t) = zs at *
            have x0 := HO5.out.a.1.cell 0 rfl
            have x1 := HO5.out.a.1.cell 1 rfl
            have x2 := HO5.out.a.1.cell 2 rfl
            have y0 := HO5.out.b.1.cell 0 rfl
            have y1 := HO5.out.b.1.cell 1 rfl
            have y2 := HO5.out.b.1.cell 2 rfl
            go_wp2_with fail
            generalize w5.alloc (.cells #[.int .i64 3, .string nc, .slice vCa lc vCc] 24) = V0 at *
            with_reducible refine (HS1.out.go HO5.out).mono ?_
            clear x0 x1 x2 y0 y1 y2
            rintro e v0 ⟨a0, c0, d0, e0, rfl, hN, hb⟩
            have HB0 := hid (hb.trans ((Below.refl v0.heap.size v0).alloc (Nat.le_refl _) (.cells #[.bool false, .slice a0 (Fr.dig P1).length c0, .bool false, .slice d0 (Fr.dig 1).length e0] 49) |>.mono hb.size))
            have HQ0 := hid (Fr.FrB.new (hN.rd false))
            have HW0 := hid (HO5.out.below HB0.out)
            clear hb hN
            have x0 := HW0.out.a.1.cell 0 rfl
            have x1 := HW0.out.a.1.cell 1 rfl
            have x2 := HW0.out.a.1.cell 2 rfl
            have y0 := HW0.out.c.1.cell 0 rfl
            have y1 := HW0.out.c.1.cell 1 rfl
            have y2 := HW0.out.c.1.cell 2 rfl
            go_wp2_with fail
            generalize v0.alloc (.cells #[.bool false, .slice a0 (Fr.dig P1).length c0, .bool false, .slice d0 (Fr.dig 1).length e0] 49) = V1 at *
            with_reducible refine (HS2.out.go HW0.out).mono ?_
            clear x0 x1 x2 y0 y1 y2
            rintro e v1 ⟨a1, c1, d1, e1, rfl, hN, hb⟩
            have HB1 := hid (hb.trans ((Below.refl v1.heap.size v1).alloc (Nat.le_refl _) (.cells #[.bool false, .slice a1 (Fr.dig P2).length c1, .bool false, .slice d1 (Fr.dig Q2).length e1] 49) |>.mono hb.size))
            have HQ1 := hid (Fr.FrB.new (hN.rd false))
            have HW1 := hid (HW0.out.below HB1.out)
            have HQ01 := hid (HQ0.out.below HB1.out)
            clear hb hN
            have x0 := HW1.out.c.1.cell 0 rfl
            have x1 := HW1.out.c.1.cell 1 rfl
            have x2 := HW1.out.c.1.cell 2 rfl
            have y0 := HW1.out.a.1.cell 0 rfl
            have y1 := HW1.out.a.1.cell 1 rfl
            have y2 := HW1.out.a.1.cell 2 rfl
            go_wp2_with fail
            generalize v1.alloc (.cells #[.bool false, .slice a1 (Fr.dig P2).length c1, .bool false, .slice d1 (Fr.dig Q2).length e1] 49) = V2 at *
            with_reducible refine (HS3.out.go HW1.out).mono ?_
            clear x0 x1 x2 y0 y1 y2
            rintro e v2 ⟨a2, c2, d2, e2, rfl, hN, hb⟩
            have HB2 := hid (hb.trans ((Below.refl v2.heap.size v2).alloc (Nat.le_refl _) (.cells #[.bool false, .slice a2 (Fr.dig P2).length c2, .bool false, .slice d2 (Fr.dig Q2).length e2] 49) |>.mono hb.size))
            have HQ2 := hid (Fr.FrB.new (hN.rd false))
            have HW2 := hid (HW1.out.below HB2.out)
            have HQ02 := hid (HQ01.out.below HB2.out)
            have HQ12 := hid (HQ1.out.below HB2.out)
            clear hb hN
            have x0 := HW2.out.b.1.cell 0 rfl
            have x1 := HW2.out.b.1.cell 1 rfl
            have x2 := HW2.out.b.1.cell 2 rfl
            have y0 := HW2.out.c.1.cell 0 rfl
            have y1 := HW2.out.c.1.cell 1 rfl
            have y2 := HW2.out.c.1.cell 2 rfl
            go_wp2_with fail
            generalize v2.alloc (.cells #[.bool false, .slice a2 (Fr.dig P2).length c2, .bool false, .slice d2 (Fr.dig Q2).length e2] 49) = V3 at *
            with_reducible refine (HS4'.out.go HW2.out).mono ?_
            clear x0 x1 x2 y0 y1 y2
            rintro e v3 ⟨a3, c3, d3, e3, rfl, hN, hb⟩
            have HB3 := hid (hb.trans ((Below.refl v3.heap.size v3).alloc (Nat.le_refl _) (.cells #[.bool false, .slice a3 (Fr.dig P2).length c3, .bool false, .slice d3 (Fr.dig Q2).length e3] 49) |>.mono hb.size))
            have HQ3 := hid (Fr.FrB.new (hN.rd false))
            have HW3 := hid (HW2.out.below HB3.out)
            have HQ03 := hid (HQ02.out.below HB3.out)
            have HQ13 := hid (HQ12.out.below HB3.out)
            have HQ23 := hid (HQ2.out.below HB3.out)
            clear hb hN
            go_wp2_with fail
            generalize v3.alloc (.cells #[.bool false, .slice a3 (Fr.dig P2).length c3, .bool false, .slice d3 (Fr.dig Q2).length e3] 49) = V4 at *
            with_reducible refine (Fr.ref_Zero _).mono ?_
            rintro e v4 ⟨a4, c4, d4, e4, rfl, hN, hb⟩
            have HI1 : Hid (∀ W, Calls Tryz.prog 26 #[.int .i64 1] W (Fr.GivesF W false 1 1)) := hid (fun W => Fr.ref_Int 1 W (by omega))
            have HN4 := hid hN
            have HW4 := hid (HW3.out.below hb)
            have HZ0 := hid (HQ03.out.below hb)
            have HZ1 := hid (HQ13.out.below hb)
            have HZ2 := hid (HQ23.out.below hb)
            have HZ3 := hid (HQ3.out.below hb)
            have HX4 := hid (Fr.FrB.new (hN.rd false))
            have HY4 := hid ((Below.refl v4.heap.size v4).alloc (Nat.le_refl _) (.cells #[.bool false, .slice a4 (Fr.dig 0).length c4, .bool false, .slice d4 (Fr.dig 1).length e4] 49))
            clear hb hN HW0 HW1 HW2 HW3 HQ0 HQ01 HQ02 HQ03 HQ1 HQ12 HQ13 HQ2 HQ23 HQ3 HO5 HB0 HB1 HB2 HB3
            by_cases h0 : n = 0
            · have hP := HP1.out
              rw [if_pos h0] at hP
              subst hP
              subst h0
              go_upto_region 32 with fail
              have HC0 := HY4
              have HX9 := HX4
              generalize v4.alloc (.cells #[.bool false, .slice a4 (Fr.dig 0).length c4, .bool false, .slice d4 (Fr.dig 1).length e4] 49) = W9 at *
              have HU0 := hid (HZ0.out.below HC0.out)
              have HU1 := hid (HZ1.out.below HC0.out)
              have HU2 := hid (HZ2.out.below HC0.out)
              have HU3 := hid (HZ3.out.below HC0.out)
              have HW9 := hid (HW4.out.below HC0.out)
              generalize v0.heap.size = s0 at *
              generalize v1.heap.size = s1 at *
              generalize v2.heap.size = s2 at *
              generalize v3.heap.size = s3 at *
              generalize v4.heap.size = s4 at *
              have HR1 := hid (fun W (hW : Below W9.heap.size W9 W) => Fr.ref_Same (Value.agg #[Value.bool false, .slice a0 (Fr.dig 0).length c0, Value.bool false, .slice d0 (Fr.dig 1).length e0]) (Value.agg #[Value.bool false, .slice a4 (Fr.dig 0).length c4, Value.bool false, .slice d4 (Fr.dig 1).length e4]) 0 1 W (HU0.out.below hW).2 (HX9.out.below hW).2)
              have HR2 := hid (fun W (hW : Below W9.heap.size W9 W) => Fr.ref_Same (Value.agg #[Value.bool false, .slice a1 (Fr.dig P2).length c1, Value.bool false, .slice d1 (Fr.dig Q2).length e1]) (Value.agg #[Value.bool false, .slice a2 (Fr.dig P2).length c2, Value.bool false, .slice d2 (Fr.dig Q2).length e2]) P2 Q2 W (HU1.out.below hW).2 (HU2.out.below hW).2)
              have HR3 := hid (fun W (hW : Below W9.heap.size W9 W) => Fr.ref_Same (Value.agg #[Value.bool false, .slice a1 (Fr.dig P2).length c1, Value.bool false, .slice d1 (Fr.dig Q2).length e1]) (Value.agg #[Value.bool false, .slice a3 (Fr.dig P2).length c3, Value.bool false, .slice d3 (Fr.dig Q2).length e3]) P2 Q2 W (HU1.out.below hW).2 (HU3.out.below hW).2)
              have HR4 := hid (fun W u v (hu : Fr.RdF W u false P2 Q2) (hv : Fr.RdF W v false 1 1) => HCM.out W u v hu hv)
              have HR5 := hid (fun W (hW : Below W9.heap.size W9 W) => (HU1.out.below hW).2)
              have HAW := hid (fun W (hW : Below W9.heap.size W9 W) => law36_awake W (HT.out.below (HW9.out.bel.trans (hW.mono HW9.out.bel.size))))
              have HG := hid (fun W (hW : Below W9.heap.size W9 W) => (⟨(HU0.out.below hW).1.cell 0 rfl, (HU0.out.below hW).1.cell 1 rfl, (HU0.out.below hW).1.cell 2 rfl, (HU0.out.below hW).1.cell 3 rfl, (HU1.out.below hW).1.cell 0 rfl, (HU1.out.below hW).1.cell 1 rfl, (HU1.out.below hW).1.cell 2 rfl, (HU1.out.below hW).1.cell 3 rfl, (HU2.out.below hW).1.cell 0 rfl, (HU2.out.below hW).1.cell 1 rfl, (HU2.out.below hW).1.cell 2 rfl, (HU2.out.below hW).1.cell 3 rfl, (HU3.out.below hW).1.cell 0 rfl, (HU3.out.below hW).1.cell 1 rfl, (HU3.out.below hW).1.cell 2 rfl, (HU3.out.below hW).1.cell 3 rfl, (HX9.out.below hW).1.cell 0 rfl, (HX9.out.below hW).1.cell 1 rfl, (HX9.out.below hW).1.cell 2 rfl, (HX9.out.below hW).1.cell 3 rfl⟩ : W.cell? ⟨s0, 0, none⟩ = some (.bool false) ∧ W.cell? ⟨s0, 1, none⟩ = some (.slice a0 (Fr.dig 0).length c0) ∧ W.cell? ⟨s0, 2, none⟩ = some (.bool false) ∧ W.cell? ⟨s0, 3, none⟩ = some (.slice d0 (Fr.dig 1).length e0) ∧ W.cell? ⟨s1, 0, none⟩ = some (.bool false) ∧ W.cell? ⟨s1, 1, none⟩ = some (.slice a1 (Fr.dig P2).length c1) ∧ W.cell? ⟨s1, 2, none⟩ = some (.bool false) ∧ W.cell? ⟨s1, 3, none⟩ = some (.slice d1 (Fr.dig Q2).length e1) ∧ W.cell? ⟨s2, 0, none⟩ = some (.bool false) ∧ W.cell? ⟨s2, 1, none⟩ = some (.slice a2 (Fr.dig P2).length c2) ∧ W.cell? ⟨s2, 2, none⟩ = some (.bool false) ∧ W.cell? ⟨s2, 3, none⟩ = some (.slice d2 (Fr.dig Q2).length e2) ∧ W.cell? ⟨s3, 0, none⟩ = some (.bool false) ∧ W.cell? ⟨s3, 1, none⟩ = some (.slice a3 (Fr.dig P2).length c3) ∧ W.cell? ⟨s3, 2, none⟩ = some (.bool false) ∧ W.cell? ⟨s3, 3, none⟩ = some (.slice d3 (Fr.dig Q2).length e3) ∧ W.cell? ⟨s4, 0, none⟩ = some (.bool false) ∧ W.cell? ⟨s4, 1, none⟩ = some (.slice a4 (Fr.dig 0).length c4) ∧ W.cell? ⟨s4, 2, none⟩ = some (.bool false) ∧ W.cell? ⟨s4, 3, none⟩ = some (.slice d4 (Fr.dig 1).length e4)))
              have HC := hid (show Below W9.heap.size W9 W9.drew by have h1 := Below.refl W9.heap.size W9; repeat' (first | (with_reducible exact Below.refl _ _) | (with_reducible assumption) | (with_reducible refine below_drewN ?_) | (with_reducible refine Below.alloc ?_ ?_ _) | (with_reducible refine Below.drew ?_) | (with_reducible refine Below.setCell ?_ ?_ _) | (with_reducible refine Below.trans ?_ (Below.mono (by with_reducible assumption) ?_)) | go_size))
              have HL9 := hid HW9.out.bel
              clear HU0 HU1 HU2 HU3 HX9 HW9 HC0
              generalize (Fr.dig P2).length = l3 at *
              generalize (Fr.dig Q2).length = l4 at *
              generalize (Fr.dig 1).length = l2 at *
              generalize (Fr.dig 0).length = l1 at *
              have hzd : decide (z ≤ 0) = true := decide_eq_true hz0
              go_region_held3 (fun w' => w'.cell? ⟨s0, 0, none⟩ = some (.bool false) ∧ w'.cell? ⟨s0, 1, none⟩ = some (.slice a0 l1 c0) ∧ w'.cell? ⟨s0, 2, none⟩ = some (.bool false) ∧ w'.cell? ⟨s0, 3, none⟩ = some (.slice d0 l2 e0) ∧ w'.cell? ⟨s1, 0, none⟩ = some (.bool false) ∧ w'.cell? ⟨s1, 1, none⟩ = some (.slice a1 l3 c1) ∧ w'.cell? ⟨s1, 2, none⟩ = some (.bool false) ∧ w'.cell? ⟨s1, 3, none⟩ = some (.slice d1 l4 e1) ∧ w'.cell? ⟨s2, 0, none⟩ = some (.bool false) ∧ w'.cell? ⟨s2, 1, none⟩ = some (.slice a2 l3 c2) ∧ w'.cell? ⟨s2, 2, none⟩ = some (.bool false) ∧ w'.cell? ⟨s2, 3, none⟩ = some (.slice d2 l4 e2) ∧ w'.cell? ⟨s3, 0, none⟩ = some (.bool false) ∧ w'.cell? ⟨s3, 1, none⟩ = some (.slice a3 l3 c3) ∧ w'.cell? ⟨s3, 2, none⟩ = some (.bool false) ∧ w'.cell? ⟨s3, 3, none⟩ = some (.slice d3 l4 e3) ∧ w'.cell? ⟨s4, 0, none⟩ = some (.bool false) ∧ w'.cell? ⟨s4, 1, none⟩ = some (.slice a4 l1 c4) ∧ w'.cell? ⟨s4, 2, none⟩ = some (.bool false) ∧ w'.cell? ⟨s4, 3, none⟩ = some (.slice d4 l2 e4))
                (first | exact HG.out _ HC.out | go_keep)
                (first
                  | (go_at_call 22; go_must (first | ((with_reducible refine (HR1.out _ HC.out).mono ?_); rintro e w10 ⟨rfl, hb10⟩; have HC := hid (HC.out.trans (hb10.mono HC.out.size)); clear hb10) | ((with_reducible refine (HR2.out _ HC.out).mono ?_); rintro e w10 ⟨rfl, hb10⟩; have HC := hid (HC.out.trans (hb10.mono HC.out.size)); clear hb10) | ((with_reducible refine (HR3.out _ HC.out).mono ?_); rintro e w10 ⟨rfl, hb10⟩; have HC := hid (HC.out.trans (hb10.mono HC.out.size)); clear hb10)))
                  | (go_at_call 26; go_must ((with_reducible refine (HI1.out _).mono ?_); rintro e w10 ⟨x4, y4, x5, y5, rfl, hN10, hb10⟩; have HN10 := hid (hN10.rd false); clear hN10; have HC := hid (HC.out.trans (hb10.mono HC.out.size)); clear hb10))
                  | (go_at_call 27; go_must ((with_reducible refine (HR4.out _ _ _ (HR5.out _ HC.out) HN10.out).mono ?_); rintro e w10 ⟨rfl, hb10⟩; have HC := hid (HC.out.trans (hb10.mono HC.out.size)); clear hb10))
                  | (go_at_call 9; go_must ((with_reducible refine (HAW.out _ HC.out).mono ?_); rintro e w10 ⟨rfl, hb10⟩; have HC := hid (HC.out.trans (hb10.mono HC.out.size)); clear hb10)))
              all_goals
                go_wp2_with fail
                go_ret
                exact ⟨rfl, HL9.out.trans (HC.out.mono HL9.out.size)⟩
            · have hP := HP1.out
              rw [if_neg h0] at hP
              subst hP
              have hgt : decide ((0 : Int) < (n : Int)) = true := decide_eq_true (by omega)
              go_wp2_with fail
              generalize v4.alloc (.cells #[.bool false, .slice a4 (Fr.dig 0).length c4, .bool false, .slice d4 (Fr.dig 1).length e4] 49) = W8 at *
              with_reducible refine (HI1.out _).mono ?_
              rintro e v5 ⟨a5, c5, d5, e5, rfl, hN, hb⟩
              have hX := HX4.out.below hb
              have hz8 := HX4.out.1.lt
              have HXN := hid hX.1
              have HN5 := hid (hN.setCell (x := ⟨v4.heap.size, 0, none⟩) (v := .bool false) hz8 |>.setCell (x := ⟨v4.heap.size, 1, none⟩) (v := .slice a5 (Fr.dig 1).length c5) hz8 |>.setCell (x := ⟨v4.heap.size, 2, none⟩) (v := .bool false) hz8 |>.setCell (x := ⟨v4.heap.size, 3, none⟩) (v := .slice d5 (Fr.dig 1).length e5) hz8)
              have HX9' := hid ((((hX.1.set 0 (.bool false)).set 1 (.slice a5 (Fr.dig 1).length c5)).set 2 (.bool false)).set 3 (.slice d5 (Fr.dig 1).length e5))
              have q0 := hX.1.cell 0 rfl
              have q1 := hX.1.cell 1 rfl
              have q2 := hX.1.cell 2 rfl
              have q3 := hX.1.cell 3 rfl
              have fq0 := hX.1.frozen 0
              have fq1 := hX.1.frozen 1
              have fq2 := hX.1.frozen 2
              have fq3 := hX.1.frozen 3
              have HC0 := hid (((((HY4.out.trans (hb.mono HY4.out.size)).setCell (p := ⟨v4.heap.size, 0, none⟩) (Nat.le_refl _) (.bool false)).setCell (p := ⟨v4.heap.size, 1, none⟩) (Nat.le_refl _) (.slice a5 (Fr.dig 1).length c5)).setCell (p := ⟨v4.heap.size, 2, none⟩) (Nat.le_refl _) (.bool false)).setCell (p := ⟨v4.heap.size, 3, none⟩) (Nat.le_refl _) (.slice d5 (Fr.dig 1).length e5))
              clear hN hb hX
              go_upto_region 32 with fail
              clear q0 q1 q2 q3 fq0 fq1 fq2 fq3
              generalize (((v5.setCell ⟨v4.heap.size, 0, none⟩ (.bool false)).setCell ⟨v4.heap.size, 1, none⟩ (.slice a5 (Fr.dig 1).length c5)).setCell ⟨v4.heap.size, 2, none⟩ (.bool false)).setCell ⟨v4.heap.size, 3, none⟩ (.slice d5 (Fr.dig 1).length e5) = W9 at *
              have HX9 := hid (show Fr.FrB W9 v4.heap.size (.slice a5 (Fr.dig 1).length c5) (.slice d5 (Fr.dig 1).length e5) 1 1 from ⟨HX9'.out, HN5.out.rd false⟩)
              have HU0 := hid (HZ0.out.below HC0.out)
              have HU1 := hid (HZ1.out.below HC0.out)
              have HU2 := hid (HZ2.out.below HC0.out)
              have HU3 := hid (HZ3.out.below HC0.out)
              have HW9 := hid (HW4.out.below HC0.out)
              generalize v0.heap.size = s0 at *
              generalize v1.heap.size = s1 at *
              generalize v2.heap.size = s2 at *
              generalize v3.heap.size = s3 at *
              generalize v4.heap.size = s4 at *
              have HR1 := hid (fun W (hW : Below W9.heap.size W9 W) => Fr.ref_Same (Value.agg #[Value.bool false, .slice a0 (Fr.dig 1).length c0, Value.bool false, .slice d0 (Fr.dig 1).length e0]) (Value.agg #[Value.bool false, .slice a5 (Fr.dig 1).length c5, Value.bool false, .slice d5 (Fr.dig 1).length e5]) 1 1 W (HU0.out.below hW).2 (HX9.out.below hW).2)
              have HR2 := hid (fun W (hW : Below W9.heap.size W9 W) => Fr.ref_Same (Value.agg #[Value.bool false, .slice a1 (Fr.dig P2).length c1, Value.bool false, .slice d1 (Fr.dig Q2).length e1]) (Value.agg #[Value.bool false, .slice a2 (Fr.dig P2).length c2, Value.bool false, .slice d2 (Fr.dig Q2).length e2]) P2 Q2 W (HU1.out.below hW).2 (HU2.out.below hW).2)
              have HR3 := hid (fun W (hW : Below W9.heap.size W9 W) => Fr.ref_Same (Value.agg #[Value.bool false, .slice a1 (Fr.dig P2).length c1, Value.bool false, .slice d1 (Fr.dig Q2).length e1]) (Value.agg #[Value.bool false, .slice a3 (Fr.dig P2).length c3, Value.bool false, .slice d3 (Fr.dig Q2).length e3]) P2 Q2 W (HU1.out.below hW).2 (HU3.out.below hW).2)
              have HR4 := hid (fun W u v (hu : Fr.RdF W u false P2 Q2) (hv : Fr.RdF W v false 1 1) => HCM.out W u v hu hv)
              have HR5 := hid (fun W (hW : Below W9.heap.size W9 W) => (HU1.out.below hW).2)
              have HAW := hid (fun W (hW : Below W9.heap.size W9 W) => law36_awake W (HT.out.below (HW9.out.bel.trans (hW.mono HW9.out.bel.size))))
              have HG := hid (fun W (hW : Below W9.heap.size W9 W) => (⟨(HU0.out.below hW).1.cell 0 rfl, (HU0.out.below hW).1.cell 1 rfl, (HU0.out.below hW).1.cell 2 rfl, (HU0.out.below hW).1.cell 3 rfl, (HU1.out.below hW).1.cell 0 rfl, (HU1.out.below hW).1.cell 1 rfl, (HU1.out.below hW).1.cell 2 rfl, (HU1.out.below hW).1.cell 3 rfl, (HU2.out.below hW).1.cell 0 rfl, (HU2.out.below hW).1.cell 1 rfl, (HU2.out.below hW).1.cell 2 rfl, (HU2.out.below hW).1.cell 3 rfl, (HU3.out.below hW).1.cell 0 rfl, (HU3.out.below hW).1.cell 1 rfl, (HU3.out.below hW).1.cell 2 rfl, (HU3.out.below hW).1.cell 3 rfl, (HX9.out.below hW).1.cell 0 rfl, (HX9.out.below hW).1.cell 1 rfl, (HX9.out.below hW).1.cell 2 rfl, (HX9.out.below hW).1.cell 3 rfl⟩ : W.cell? ⟨s0, 0, none⟩ = some (.bool false) ∧ W.cell? ⟨s0, 1, none⟩ = some (.slice a0 (Fr.dig 1).length c0) ∧ W.cell? ⟨s0, 2, none⟩ = some (.bool false) ∧ W.cell? ⟨s0, 3, none⟩ = some (.slice d0 (Fr.dig 1).length e0) ∧ W.cell? ⟨s1, 0, none⟩ = some (.bool false) ∧ W.cell? ⟨s1, 1, none⟩ = some (.slice a1 (Fr.dig P2).length c1) ∧ W.cell? ⟨s1, 2, none⟩ = some (.bool false) ∧ W.cell? ⟨s1, 3, none⟩ = some (.slice d1 (Fr.dig Q2).length e1) ∧ W.cell? ⟨s2, 0, none⟩ = some (.bool false) ∧ W.cell? ⟨s2, 1, none⟩ = some (.slice a2 (Fr.dig P2).length c2) ∧ W.cell? ⟨s2, 2, none⟩ = some (.bool false) ∧ W.cell? ⟨s2, 3, none⟩ = some (.slice d2 (Fr.dig Q2).length e2) ∧ W.cell? ⟨s3, 0, none⟩ = some (.bool false) ∧ W.cell? ⟨s3, 1, none⟩ = some (.slice a3 (Fr.dig P2).length c3) ∧ W.cell? ⟨s3, 2, none⟩ = some (.bool false) ∧ W.cell? ⟨s3, 3, none⟩ = some (.slice d3 (Fr.dig Q2).length e3) ∧ W.cell? ⟨s4, 0, none⟩ = some (.bool false) ∧ W.cell? ⟨s4, 1, none⟩ = some (.slice a5 (Fr.dig 1).length c5) ∧ W.cell? ⟨s4, 2, none⟩ = some (.bool false) ∧ W.cell? ⟨s4, 3, none⟩ = some (.slice d5 (Fr.dig 1).length e5)))
              have HC := hid (show Below W9.heap.size W9 W9.drew by have h1 := Below.refl W9.heap.size W9; repeat' (first | (with_reducible exact Below.refl _ _) | (with_reducible assumption) | (with_reducible refine below_drewN ?_) | (with_reducible refine Below.alloc ?_ ?_ _) | (with_reducible refine Below.drew ?_) | (with_reducible refine Below.setCell ?_ ?_ _) | (with_reducible refine Below.trans ?_ (Below.mono (by with_reducible assumption) ?_)) | go_size))
              have HL9 := hid HW9.out.bel
              clear HU0 HU1 HU2 HU3 HX9 HW9 HC0
              generalize (Fr.dig P2).length = l3 at *
              generalize (Fr.dig Q2).length = l4 at *
              generalize (Fr.dig 1).length = l2 at *
              have hzd : decide (z ≤ 0) = true := decide_eq_true hz0
              go_region_held3 (fun w' => w'.cell? ⟨s0, 0, none⟩ = some (.bool false) ∧ w'.cell? ⟨s0, 1, none⟩ = some (.slice a0 l2 c0) ∧ w'.cell? ⟨s0, 2, none⟩ = some (.bool false) ∧ w'.cell? ⟨s0, 3, none⟩ = some (.slice d0 l2 e0) ∧ w'.cell? ⟨s1, 0, none⟩ = some (.bool false) ∧ w'.cell? ⟨s1, 1, none⟩ = some (.slice a1 l3 c1) ∧ w'.cell? ⟨s1, 2, none⟩ = some (.bool false) ∧ w'.cell? ⟨s1, 3, none⟩ = some (.slice d1 l4 e1) ∧ w'.cell? ⟨s2, 0, none⟩ = some (.bool false) ∧ w'.cell? ⟨s2, 1, none⟩ = some (.slice a2 l3 c2) ∧ w'.cell? ⟨s2, 2, none⟩ = some (.bool false) ∧ w'.cell? ⟨s2, 3, none⟩ = some (.slice d2 l4 e2) ∧ w'.cell? ⟨s3, 0, none⟩ = some (.bool false) ∧ w'.cell? ⟨s3, 1, none⟩ = some (.slice a3 l3 c3) ∧ w'.cell? ⟨s3, 2, none⟩ = some (.bool false) ∧ w'.cell? ⟨s3, 3, none⟩ = some (.slice d3 l4 e3) ∧ w'.cell? ⟨s4, 0, none⟩ = some (.bool false) ∧ w'.cell? ⟨s4, 1, none⟩ = some (.slice a5 l2 c5) ∧ w'.cell? ⟨s4, 2, none⟩ = some (.bool false) ∧ w'.cell? ⟨s4, 3, none⟩ = some (.slice d5 l2 e5))
                (first | exact HG.out _ HC.out | go_keep)
                (first
                  | (go_at_call 22; go_must (first | ((with_reducible refine (HR1.out _ HC.out).mono ?_); rintro e w10 ⟨rfl, hb10⟩; have HC := hid (HC.out.trans (hb10.mono HC.out.size)); clear hb10) | ((with_reducible refine (HR2.out _ HC.out).mono ?_); rintro e w10 ⟨rfl, hb10⟩; have HC := hid (HC.out.trans (hb10.mono HC.out.size)); clear hb10) | ((with_reducible refine (HR3.out _ HC.out).mono ?_); rintro e w10 ⟨rfl, hb10⟩; have HC := hid (HC.out.trans (hb10.mono HC.out.size)); clear hb10)))
                  | (go_at_call 26; go_must ((with_reducible refine (HI1.out _).mono ?_); rintro e w10 ⟨x4, y4, x5, y5, rfl, hN10, hb10⟩; have HN10 := hid (hN10.rd false); clear hN10; have HC := hid (HC.out.trans (hb10.mono HC.out.size)); clear hb10))
                  | (go_at_call 27; go_must ((with_reducible refine (HR4.out _ _ _ (HR5.out _ HC.out) HN10.out).mono ?_); rintro e w10 ⟨rfl, hb10⟩; have HC := hid (HC.out.trans (hb10.mono HC.out.size)); clear hb10))
                  | (go_at_call 9; go_must ((with_reducible refine (HAW.out _ HC.out).mono ?_); rintro e w10 ⟨rfl, hb10⟩; have HC := hid (HC.out.trans (hb10.mono HC.out.size)); clear hb10)))
              all_goals
                go_wp2_with fail
                go_ret
                exact ⟨rfl, HL9.out.trans (HC.out.mono HL9.out.size)⟩
  · have HLI := hid (kit_Light a n c w hnm)
    rw [decide_eq_false hg] at HLI
    go_enter Tryz.func4, Tryz.ntmps4
    generalize hLA : Code.loop _ = LA
    go_wp2_with fail
    with_reducible refine HLI.out.mono ?_
    rintro e w0 ⟨rfl, rfl⟩
    clear HLI
    go_wp2_with fail
    with_reducible refine (law36_awake _ HT.out).mono ?_
    rintro e w1 ⟨rfl, hb1⟩
    go_wp2_with fail
    go_ret
    exact ⟨rfl, hb1⟩

end Go.Proofs.YtfcccldofaleoaaGreatDoor
