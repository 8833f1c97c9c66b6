/- bounded.Follow at overlap's closures. PRINTED by wip/tools/gen_bph.py -/
import Derived.Deep.Cut
import Derived.BigQuiet
import Derived.Deep.RegionHeld3
import Derived.Test.YtikiimlmoalbcaaGreatDoorOOtbl
set_option linter.unusedVariables false
set_option linter.unusedSimpArgs false
namespace Go.Proofs.YtikiimlmoalbcaaGreatDoor
open Go.RowKit
set_option maxRecDepth 100000 in
set_option maxHeartbeats 16000000 in
theorem fol_over {w : World} {cs : List Cv} {ev vv lv hv fv : Value} {ds : List Mq} {den : Nat → Nat → Nat} {Q : Nat} (kn : Nat → Nat × Nat) (oth : Nat → Bool) (k1 k2 k3 o1 o2 : Nat) (hok : CvsOk cs) (hx : RdIx w (· < w.heap.size) ev vv lv (indexOf cs)) (hh : MsRd w hv ds) (hfv : ∃ ff fa fc, fv = .func ff fa fc) (hs : ScoOk w fv Q den) (ho : Fr.OneAt w)
  (hkb : ∀ c, c < cs.length → (kn c).1 ≤ Q ∧ (kn c).1 ≤ sizeC cs c ∧ (kn c).2 ≤ Q ∧ (kn c).2 ≤ sizeC cs c)
  (hkn : ∀ c W, c < cs.length → Below w.heap.size w W → Calls Tryz.prog 80 #[.int .i64 (c : Int), .pointer (some ⟨k1, 0, none⟩), .pointer (some ⟨k2, 0, none⟩), .pointer (some ⟨k3, 0, none⟩)] W (Ret W (.tuple #[.int .i64 ((kn c).1 : Int), .int .i64 ((kn c).2 : Int)])))
  (hot : ∀ c W a b m n, c < cs.length → 0 < (kn c).2 → Below w.heap.size w W → Fr.Rd32 W (.slice a (Fr.dig ((kn c).2 / Nat.gcd (kn c).2 (den (kn c).2 (sizeC cs c)))).length m) (Fr.dig ((kn c).2 / Nat.gcd (kn c).2 (den (kn c).2 (sizeC cs c)))) → Fr.Rd32 W (.slice b (Fr.dig (den (kn c).2 (sizeC cs c) / Nat.gcd (kn c).2 (den (kn c).2 (sizeC cs c)))).length n) (Fr.dig (den (kn c).2 (sizeC cs c) / Nat.gcd (kn c).2 (den (kn c).2 (sizeC cs c)))) → Calls Tryz.prog 134 #[.agg #[.int .i64 (cs.getD c Cv.z).1.1, .int .i64 ((cs.getD c Cv.z).1.2 : Int), .bool false, .slice a (Fr.dig ((kn c).2 / Nat.gcd (kn c).2 (den (kn c).2 (sizeC cs c)))).length m, .bool false, .slice b (Fr.dig (den (kn c).2 (sizeC cs c) / Nat.gcd (kn c).2 (den (kn c).2 (sizeC cs c)))).length n], .pointer (some ⟨o1, 0, none⟩), .pointer (some ⟨o2, 0, none⟩)] W (Ret W (.bool (oth c)))) :
  Calls Tryz.prog 85 #[.agg #[ev, vv, lv], hv, .func (.func 80) #[] #[.pointer (some ⟨k1, 0, none⟩), .pointer (some ⟨k2, 0, none⟩), .pointer (some ⟨k3, 0, none⟩)], fv, .func (.func 134) #[] #[.pointer (some ⟨o1, 0, none⟩), .pointer (some ⟨o2, 0, none⟩)]] w (Ret w (.bool (followB cs den kn oth ds))) := by
 have hE : cs.length ≤ 65536 := hok.many
 have hmany := hh.many
 obtain ⟨ff, fa, fc, rfl⟩ := hfv
 have HOR := hid (fun i j W (hi : i < ds.length) (hj : j < ds.length) (hW : Below w.heap.size w W) => bnd_Order (ds.getD i default).1 (ds.getD j default).1 W ((hh.later hW).rd _ (getD_mem hi _)) ((hh.later hW).rd _ (getD_mem hj _)) (hh.sml _ (getD_mem hi _)) (hh.sml _ (getD_mem hj _)) (ho.below hW))
 have HPC := hid (fun i W (hW : Below w.heap.size w W) => posting_Column (indexOf cs) ev vv lv (ds.getD i default).1.ta (ds.getD i default).1.ca W.heap.size W ((hx.keep fun p hp => hW.cell (p := p) hp).more fun b hb => Nat.lt_of_lt_of_le hb hW.size) (Nat.le_refl _) (by rw [show (indexOf cs).ents.length = cs.length from ents_len cs]; omega))
 have HPS := hid (fun n s W (h1 : n ≤ Q) (h2 : n ≤ s) (h3 : s ≤ 4096) (hW : Below w.heap.size w W) => hs.call n s W h1 h2 h3 hW)
 have HFV := hid (fun i W (hi : i < ds.length) (hW : Below w.heap.size w W) => Fr.frac_Valid (ds.getD i default).1.fr (ds.getD i default).1.p (ds.getD i default).1.q W ((hh.later hW).rd _ (getD_mem hi _)) (hh.sml _ (getD_mem hi _)).num (hh.sml _ (getD_mem hi _)).pos (hh.sml _ (getD_mem hi _)).den (hh.sml _ (getD_mem hi _)).low (ho.below hW))
 have HCM := hid (fun i W v P R (hi : i < ds.length) (hW : Below w.heap.size w W) (hv : Fr.RdF W v false P R) (hsm : Fr.Sml P R) => Fr.frac_Cmp v (ds.getD i default).1.fr P R (ds.getD i default).1.p (ds.getD i default).1.q W hv ((hh.later hW).rd _ (getD_mem hi _)) hsm (hh.sml _ (getD_mem hi _)) (ho.below hW))
 have HSZ := hid (fun c => size_le hok c)
 have HHT := hid (fun i W (hi : i < ds.length) (hW : Below w.heap.size w W) => hit_at (InK.keep (w' := W) hh.mem fun x hx => hW.cell (p := x) hx) hi)
 have HPL := hid (fun i => place_ok cs (ds.getD i default).1)
 obtain ⟨ea, ec, rfl, hec, hem, her⟩ := id hx.ents
 obtain ⟨va, vc, rfl, -⟩ := id hx.vals
 obtain ⟨lf, ⟨la, lc, rfl, -⟩, -⟩ := id hx.lists
 obtain ⟨ha, hc0, rfl, hhc, hhm, -⟩ := id hh.mem
 have hel : (indexOf cs).ents.length = cs.length := ents_len cs
 rw [hel] at hec her ⊢
 have HPC : Hid (∀ i W, Below w.heap.size w W → Calls Tryz.prog 142 #[.agg #[.slice ea cs.length ec, .slice va (indexOf cs).vals.length vc, .slice la (indexOf cs).lists.length lc], .agg #[.int .i64 (ds.getD i default).1.ta, .int .i64 (ds.getD i default).1.ca]] W (Ret W (.int .i64 (placeM cs (ds.getD i default).1)))) := hid (fun i W hW => by
  have h := HPC.out i W hW
  rw [hel] at h
  exact h)
 have HEN := hid (fun c W (hc : c < cs.length) (hW : Below w.heap.size w W) => (by
  obtain ⟨b, o, e, hb, hcell⟩ := her (by omega)
  refine ⟨b, o, e, fun j hj => (hW.cell (p := ⟨b, o + c * 3 + j, none⟩) hb).trans (hcell c (by omega) j hj)⟩ : ∃ b o, ea = some ⟨b, o, none⟩ ∧ ∀ j, j < 3 → W.cell? ⟨b, o + c * 3 + j, none⟩ = some (entF (indexOf cs).ents c j)))
 have HEF : Hid (∀ c, c < cs.length → entF (indexOf cs).ents c 0 = .int .i64 (cs.getD c Cv.z).1.1 ∧ entF (indexOf cs).ents c 1 = .int .i64 ((cs.getD c Cv.z).1.2 : Int) ∧ entF (indexOf cs).ents c 2 = .int .i64 ((sizeC cs c : Nat) : Int)) := hid (fun c hc => by
  simp [entF, indexOf, entsOf, List.getD, hc, three, sizeC])
 have HNO1 := hid (fun i (hi : i < ds.length) (h : hitOkB cs den kn ds i = false) => (by unfold followB; rw [all_no hi h]; rfl : followB cs den kn oth ds = false))
 have HNO2 := hid (fun c (hc : c < cs.length) (h : colOkB cs kn oth ds c = false) => (by unfold followB; rw [all_no hc h, Bool.and_false] : followB cs den kn oth ds = false))
 have HYES := hid (fun (h1 : ∀ i, i < ds.length → hitOkB cs den kn ds i = true) (h2 : ∀ c, c < cs.length → colOkB cs kn oth ds c = true) => (by unfold followB; rw [all_yes h1, all_yes h2]; rfl : followB cs den kn oth ds = true))
 have HKB := hid hkb
 have HKN := hid hkn
 have HOT := hid hot
 have HTS := hid (fun p (hp : p < ds.length) => taken_succ cs hp)
 have HTA := hid (taken_all cs ds)
 have HTZ := hid (taken_zero cs ds)
 have HDEN := hid (fun n s (h0 : 0 < n) (h1 : n ≤ Q) (h2 : n ≤ s) => hs.sco.pos n s h0 h1 h2)
 have HDSM := hid (fun n s (h0 : 0 < n) (h1 : n ≤ Q) (h2 : n ≤ s) (h3 : s ≤ 4096) => hs.small n s h0 h1 h2 h3)
 have HHO : Hid (∀ i, hitOkB cs den kn ds i = (decide (0 ≤ placeM cs (ds.getD i default).1) && ((decide (i = 0) || decide (cfM (ds.getD (i - 1) default).1 (ds.getD i default).1 < 0)) &&
  (decide (0 < (kn (placeM cs (ds.getD i default).1).toNat).1) && (decide ((kn (placeM cs (ds.getD i default).1).toNat).1 = (kn (placeM cs (ds.getD i default).1).toNat).2) &&
   decide (Fr.sgn ((kn (placeM cs (ds.getD i default).1).toNat).1 / Nat.gcd (kn (placeM cs (ds.getD i default).1).toNat).1 (den (kn (placeM cs (ds.getD i default).1).toNat).1 (sizeC cs (placeM cs (ds.getD i default).1).toNat)) * (ds.getD i default).1.q)
    ((ds.getD i default).1.p * (den (kn (placeM cs (ds.getD i default).1).toNat).1 (sizeC cs (placeM cs (ds.getD i default).1).toNat) / Nat.gcd (kn (placeM cs (ds.getD i default).1).toNat).1 (den (kn (placeM cs (ds.getD i default).1).toNat).1 (sizeC cs (placeM cs (ds.getD i default).1).toNat)))) = 0)))))) := hid (fun _ => rfl)
 have HCO : Hid (∀ c, colOkB cs kn oth ds c = (!decide (0 < (kn c).2) || ((takenF cs ds ds.length (c : Int)) || oth c))) := hid (fun c => by rw [taken_all]; rfl)
 generalize followB cs den kn oth ds = R at *
 generalize (indexOf cs).vals.length = NV at *
 generalize (indexOf cs).lists.length = NL at *
 clear hok hx hh hs ho hkb hkn hot her hel
 unfold maxLen at hem hhm
 obtain ⟨NH, hNH⟩ : ∃ n, n = ds.length := ⟨_, rfl⟩
 rw [← hNH] at hmany hhc ⊢
 have HNH := hid hNH
 clear hNH
 obtain ⟨NC, hNC⟩ : ∃ n, n = cs.length := ⟨_, rfl⟩
 rw [← hNC] at hE hec HPC ⊢
 have HNC := hid hNC
 clear hNC
 have hx0 := BoxN.new w #[.slice ea NC ec, .slice va NV vc, .slice la NL lc] 30
 have HB0 := hid ((Below.refl w.heap.size w).alloc (Nat.le_refl _) (.cells #[.slice ea NC ec, .slice va NV vc, .slice la NL lc] 30))
 go_enter Tryz.func85, Tryz.ntmps85
 generalize hLA : Code.loop _ = LA
 go_upto_region 1 with fail
 generalize w.alloc (.cells #[.slice ea NC ec, .slice va NV vc, .slice la NL lc] 30) = W0 at *
 have HX0 := hid hx0
 have HMB := hid (MapB.made W0)
 have HB1 := hid (HB0.out.alloc HB0.out.size (.map #[] 0))
 have HX1 := hid (hx0.alloc (.map #[] 0))
 have hmm := @run_makeMap Tryz.prog
 clear hx0
 have hw0 : w.heap.size < W0.heap.size := HX0.out.lt
 go_wp2_with fail
 obtain ⟨mb, hmb⟩ : ∃ mb, mb = W0.heap.size := ⟨_, rfl⟩
 rw [← hmb] at HMB ⊢
 obtain ⟨W1, hW1⟩ : ∃ W1, W1 = W0.alloc (.map #[] 0) := ⟨_, rfl⟩
 have hz1 : W1.heap.size = mb + 1 := by rw [hW1, World.size_alloc, ← hmb]
 rw [← hW1] at HMB HX1 HB1 ⊢
 have hmbw : w.heap.size < mb := by omega
 clear hW1 hmb hmm HB0 HX0
 subst hLA
 go_loopg [28, 12, 13, 14, 15, 16, 17, 18] NH (fun K i u1 u2 u3 u4 u5 u6 u7 wr => ∃ (p kk : Nat), i = .int .i64 (p : Int) ∧ p + K = NH ∧ kk ≤ p ∧ Hid (Below w.heap.size w wr) ∧ True ∧ Hid (MapB wr mb kk (takenF cs ds p)) ∧ Hid (BoxN wr w.heap.size 30 #[.slice ea NC ec, .slice va NV vc, .slice la NL lc]) ∧ Hid (∀ i, i < p → hitOkB cs den kn ds i = true))
 case atStart => exact ⟨0, 0, rfl, by omega, Nat.le_refl _, HB1, trivial, hid (by rw [HTZ.out]; exact HMB.out), HX1, hid (fun i hi => absurd hi (by omega))⟩
 case round =>
  obtain ⟨p, kk, rfl, hp0, hkk, HB2, -, HM2, HX2, HALL⟩ := hrel
  clear HB1 HMB HX1
  by_cases hp : 0 < gk
  ·have hpl : (p : Int) < (NH : Int) := by omega
   have hpd : p < ds.length := by have := HNH.out; omega
   have hb2 := HB2.out.size
   obtain ⟨hb, ho0, hc1, e, -, hcl⟩ := HHT.out p wr hpd HB2.out
   obtain ⟨rfl, -, rfl⟩ := Value.slice.inj e
   have HHOP := hid (HHO.out p)
   have HPCP := hid (HPC.out p)
   have HFVP := hid (HFV.out p)
   have HCMP := hid (HCM.out p)
   have HPLP := hid (HPL.out p)
   have HORP := hid (HOR.out (p - 1) p)
   have HTSP := hid (HTS.out p hpd)
   have HNOP := hid (HNO1.out p hpd)
   have HHTP := hid (HHT.out (p - 1))
   generalize (ds.getD (p - 1) default).1 = y0 at *
   generalize (ds.getD p default).1 = y at *
   obtain ⟨ta, ca, ⟨na, nc⟩, ⟨da, dc⟩, P, Qd⟩ := y
   have c0 : wr.cell? ⟨hb, ho0 + p * 6, none⟩ = some (.int .i64 ta) := by have h3 := hcl 0 (by omega); rw [Nat.add_zero] at h3; exact h3
   have c1 : wr.cell? ⟨hb, ho0 + p * 6 + 1, none⟩ = some (.int .i64 ca) := hcl 1 (by omega)
   have c2 : wr.cell? ⟨hb, ho0 + p * 6 + 2, none⟩ = some (.bool false) := hcl 2 (by omega)
   have c3 : wr.cell? ⟨hb, ho0 + p * 6 + 3, none⟩ = some (.slice na (Fr.dig P).length nc) := hcl 3 (by omega)
   have c4 : wr.cell? ⟨hb, ho0 + p * 6 + 4, none⟩ = some (.bool false) := hcl 4 (by omega)
   have c5 : wr.cell? ⟨hb, ho0 + p * 6 + 5, none⟩ = some (.slice da (Fr.dig Qd).length dc) := hcl 5 (by omega)
   have x0 := HX2.out.cell 0 rfl
   have x1 := HX2.out.cell 1 rfl
   have x2 := HX2.out.cell 2 rfl
   clear hcl e
   have HB3 := hid (HB2.out.alloc HB2.out.size (.cells #[.int .i64 ta, .int .i64 ca, .bool false, .slice na (Fr.dig P).length nc, .bool false, .slice da (Fr.dig Qd).length dc] 53))
   have hxx := HX2.out.alloc (.cells #[.int .i64 ta, .int .i64 ca, .bool false, .slice na (Fr.dig P).length nc, .bool false, .slice da (Fr.dig Qd).length dc] 53)
   have hxh := BoxN.new wr #[.int .i64 ta, .int .i64 ca, .bool false, .slice na (Fr.dig P).length nc, .bool false, .slice da (Fr.dig Qd).length dc] 53
   have hmx := HM2.out.alloc (.cells #[.int .i64 ta, .int .i64 ca, .bool false, .slice na (Fr.dig P).length nc, .bool false, .slice da (Fr.dig Qd).length dc] 53)
   have hmb2 := HM2.out.lt
   go_upto_region 5 with fail
   obtain ⟨hbk, hhbk⟩ : ∃ n, n = wr.heap.size := ⟨_, rfl⟩
   rw [← hhbk] at hxh hmb2 hb2 ⊢
   clear hhbk
   generalize wr.alloc (.cells #[.int .i64 ta, .int .i64 ca, .bool false, .slice na (Fr.dig P).length nc, .bool false, .slice da (Fr.dig Qd).length dc] 53) = W3 at *
   have hlt3 : hbk < W3.heap.size := hxh.lt
   have HXX := hid (fun W (hW : Below W3.heap.size W3 W) => hxx.below hW hxx.lt)
   have HXH := hid (fun W (hW : Below W3.heap.size W3 W) => hxh.below hW hxh.lt)
   have HMX := hid (fun W (hW : Below W3.heap.size W3 W) => hmx.below hW hmx.lt)
   clear HM2 HX2 x0 x1 x2 c0 c1 c2 c3 c4 c5 HB2 hxx hxh hmx
   have hcells := hid (fun W (hW : Below W3.heap.size W3 W) => (by
    have h1 := HXX.out W hW
    have h2 := HXH.out W hW
    exact ⟨h1.cell 0 rfl, h1.cell 1 rfl, h1.cell 2 rfl, h2.cell 0 rfl, h2.cell 1 rfl, h2.cell 2 rfl, h2.cell 3 rfl, h2.cell 4 rfl, h2.cell 5 rfl⟩ : W.cell? ⟨w.heap.size, 0, none⟩ = some (.slice ea NC ec) ∧ W.cell? ⟨w.heap.size, 1, none⟩ = some (.slice va NV vc) ∧ W.cell? ⟨w.heap.size, 2, none⟩ = some (.slice la NL lc) ∧ W.cell? ⟨hbk, 0, none⟩ = some (.int .i64 ta) ∧ W.cell? ⟨hbk, 1, none⟩ = some (.int .i64 ca) ∧ W.cell? ⟨hbk, 2, none⟩ = some (.bool false) ∧ W.cell? ⟨hbk, 3, none⟩ = some (.slice na (Fr.dig P).length nc) ∧ W.cell? ⟨hbk, 4, none⟩ = some (.bool false) ∧ W.cell? ⟨hbk, 5, none⟩ = some (.slice da (Fr.dig Qd).length dc)))
   obtain ⟨x0, x1, x2, y0', y1', y2', y3', y4', y5'⟩ := hcells.out W3 (Below.refl _ _)
   go_wp2_with fail
   with_reducible refine (HPCP.out _ HB3.out).mono ?_
   rintro e w4 ⟨rfl, hb4⟩
   have HC4 := hid hb4
   have HB4 := hid (HB3.out.trans (hb4.mono HB3.out.size))
   clear hb4 x0 x1 x2 y0' y1' y2' y3' y4' y5' HPCP
   obtain ⟨x0, x1, x2, y0', y1', y2', y3', y4', y5'⟩ := hcells.out w4 HC4.out
   generalize placeM cs ⟨ta, ca, (na, nc), (da, dc), P, Qd⟩ = z at *
   go_upto_region 6 with fail
   rcases HPLP.out with rfl | ⟨c, hc, href, rfl⟩
   ·have hgd : decide ((-1 : Int) < 0) = true := rfl
    have HR := hid (HNOP.out (by rw [HHOP.out]; rfl))
    go_quiet (fail)
    go_wp2
    go_ret
    exact ⟨by rw [HR.out]; rfl, by have h1 := HB4.out; repeat' (first | (with_reducible exact Below.refl _ _) | (with_reducible assumption) | (with_reducible refine below_drewN ?_) | (with_reducible refine Below.alloc ?_ ?_ _) | (with_reducible refine Below.drew ?_) | (with_reducible refine Below.setCell ?_ ?_ _) | (with_reducible refine Below.trans ?_ (Below.mono (by with_reducible assumption) ?_)) | go_size)⟩
   ·have hci : ¬ (c : Int) < 0 := by omega
    have hgd : decide ((c : Int) < 0) = false := decide_eq_false hci
    by_cases hpz : p = 0
    ·have hg2 : decide ((0 : Int) < (p : Int)) = false := decide_eq_false (by omega)
     have hpz2 : ¬ (0 : Int) < (p : Int) := by omega
     have HFST : Hid ((decide (p = 0) || decide (cfM y0 ⟨ta, ca, (na, nc), (da, dc), P, Qd⟩ < 0)) = true) := hid (by rw [decide_eq_true hpz]; rfl)
     go_quiet (fail)
     have HC6 := hid (show Below W3.heap.size W3 (w4.drewN nq) by have h1 := HC4.out; repeat' (first | (with_reducible exact Below.refl _ _) | (with_reducible assumption) | (with_reducible refine below_drewN ?_) | (with_reducible refine Below.alloc ?_ ?_ _) | (with_reducible refine Below.drew ?_) | (with_reducible refine Below.setCell ?_ ?_ _) | (with_reducible refine Below.trans ?_ (Below.mono (by with_reducible assumption) ?_)) | go_size))
     have HB6 := hid (show Below w.heap.size w (w4.drewN nq) by have h1 := HB4.out; repeat' (first | (with_reducible exact Below.refl _ _) | (with_reducible assumption) | (with_reducible refine below_drewN ?_) | (with_reducible refine Below.alloc ?_ ?_ _) | (with_reducible refine Below.drew ?_) | (with_reducible refine Below.setCell ?_ ?_ _) | (with_reducible refine Below.trans ?_ (Below.mono (by with_reducible assumption) ?_)) | go_size))
     have HKNP0 := hid (fun W hW => HKN.out c W hc hW)
     have hbnd := HKB.out c hc
     have hsz := HSZ.out c
     have HH20 : Hid (hitOkB cs den kn ds p = (decide (0 < (kn c).1) && (decide ((kn c).1 = (kn c).2) && decide (Fr.sgn ((kn c).1 / Nat.gcd (kn c).1 (den (kn c).1 (sizeC cs c)) * Qd) (P * (den (kn c).1 (sizeC cs c) / Nat.gcd (kn c).1 (den (kn c).1 (sizeC cs c)))) = 0)))) := hid (by
      rw [HHOP.out, HFST.out]
      simp only [Int.toNat_natCast]
      rw [decide_eq_true (Int.natCast_nonneg c), Bool.true_and, Bool.true_and])
     clear HHOP HFST
     have HDP0 := hid (HDEN.out (kn c).1 (sizeC cs c))
     have HDS0 := hid (HDSM.out (kn c).1 (sizeC cs c))
     generalize hkc : kn c = kc at HKNP0 hbnd HH20 HDP0 HDS0
     obtain ⟨low, high⟩ := kc
     obtain ⟨hb1, hb2, hb3, hb4⟩ := hbnd
     have HH2 : Hid (hitOkB cs den kn ds p = (decide (0 < low) && (decide (low = high) && decide (Fr.sgn (low / Nat.gcd low (den low (sizeC cs c)) * Qd) (P * (den low (sizeC cs c) / Nat.gcd low (den low (sizeC cs c)))) = 0)))) := hid HH20.out
     have HKNP : Hid (∀ W, Below w.heap.size w W → Calls Tryz.prog 80 #[.int .i64 (c : Int), .pointer (some ⟨k1, 0, none⟩), .pointer (some ⟨k2, 0, none⟩), .pointer (some ⟨k3, 0, none⟩)] W (Ret W (.tuple #[.int .i64 (low : Int), .int .i64 (high : Int)]))) := hid HKNP0.out
     have hb1 : low ≤ Q := hb1
     have hb2 : low ≤ sizeC cs c := hb2
     have HDP : Hid (0 < low → 0 < den low (sizeC cs c)) := hid (fun h => HDP0.out h hb1 hb2)
     have HDS : Hid (0 < low → den low (sizeC cs c) < 4294967296) := hid (fun h => HDS0.out h hb1 hb2 hsz)
     have HPSP := hid (fun W hW => HPS.out low (sizeC cs c) W hb1 hb2 hsz hW)
     obtain ⟨eb, eo, rfl, hce⟩ := HEN.out c _ hc HB6.out
     have HSE := hid ((HEF.out c hc).2.2)
     have HCE := hid (fun W hW => (HEN.out c W hc hW))
     clear hce hkc HKNP0 HH20 HDP0 HDS0
     generalize den low (sizeC cs c) = dd1 at *
     generalize sizeC cs c = SZ at *
     go_wp2_with fail
     with_reducible refine (HKNP.out _ HB6.out).mono ?_
     rintro e w7 ⟨rfl, hb7⟩
     have HC7 := hid (HC6.out.trans (hb7.mono HC6.out.size))
     have HB7 := hid (HB6.out.trans (hb7.mono HB6.out.size))
     clear hb7 HKNP
     obtain ⟨x0, x1, x2, y0', y1', y2', y3', y4', y5'⟩ := hcells.out w7 HC7.out
     obtain ⟨eb', eo', e, hce⟩ := HCE.out w7 HB7.out
     have e6 := Option.some.inj e
     obtain rfl : eb = eb' := congrArg Addr.block e6
     obtain rfl : eo = eo' := congrArg Addr.off e6
     have c2 : w7.cell? ⟨eb, eo + c * 3 + 2, none⟩ = some (.int .i64 ((SZ : Nat) : Int)) := (hce 2 (by omega)).trans (congrArg some HSE.out)
     clear hce e e6
     have hci3 : (c : Int) < (NC : Int) := by have := HNC.out; omega
     go_wp2_with fail
     with_reducible refine (HPSP.out w7 HB7.out).mono ?_
     rintro e w8 ⟨s1, s2, pa, pb, pc, pk, pl1, pl2, rfl, hb8, hpos⟩
     have HC8 := hid (HC7.out.trans (hb8.mono HC7.out.size))
     have HB8 := hid (HB7.out.trans (hb8.mono HB7.out.size))
     clear x0 x1 x2 y0' y1' y2' y3' y4' y5' c2 hb8 HPSP
     have HC9 := hid (HC8.out.alloc HC8.out.size (.cells #[.bool s1, .slice pa pl1 pc, .bool s2, .slice pb pl2 pk] 45))
     have HB9 := hid (HB8.out.alloc HB8.out.size (.cells #[.bool s1, .slice pa pl1 pc, .bool s2, .slice pb pl2 pk] 45))
     have HX9 := hid (BoxN.new w8 #[.bool s1, .slice pa pl1 pc, .bool s2, .slice pb pl2 pk] 45)
     by_cases h0 : 0 < low
     ·obtain ⟨rfl, rfl, rfl, rfl, hN⟩ := hpos h0
      have HN9 := hid (hN.kept ((Below.refl w8.heap.size w8).alloc (Nat.le_refl _) (.cells #[.bool false, .slice pa (Fr.dig (low / Nat.gcd low dd1)).length pc, .bool false, .slice pb (Fr.dig (dd1 / Nat.gcd low dd1)).length pk] 45)))
      have HSM := hid (sml_ofB (c := low) (d := dd1) (HDP.out h0) (by have := hsz; omega) (HDS.out h0))
      have HGT := hid (decide_eq_true h0)
      rw [HGT.out] at HH2
      rw [HGT.out]
      go_upto_region 10 with fail
      obtain ⟨W9, hW9⟩ : ∃ V, V = w8.alloc (.cells #[.bool false, .slice pa (Fr.dig (low / Nat.gcd low dd1)).length pc, .bool false, .slice pb (Fr.dig (dd1 / Nat.gcd low dd1)).length pk] 45) := ⟨_, rfl⟩
      rw [← hW9] at HC9 HB9 HX9 HN9 ⊢
      clear hW9 hN hpos
      by_cases hlh : low = high
      ·subst hlh
       have hii : ((low : Nat) : Int) = (low : Int) := rfl
       obtain ⟨x0, x1, x2, y0', y1', y2', y3', y4', y5'⟩ := hcells.out W9 HC9.out
       have z0 := HX9.out.cell 0 rfl
       have z1 := HX9.out.cell 1 rfl
       have z2 := HX9.out.cell 2 rfl
       have z3 := HX9.out.cell 3 rfl
       have HFV2 : Hid (∀ W, Below w.heap.size w W → Calls Tryz.prog 57 #[.agg #[.bool false, .slice na (Fr.dig P).length nc, .bool false, .slice da (Fr.dig Qd).length dc]] W (Ret W (.bool true))) := hid (fun W hW => HFVP.out W hpd hW)
       have HCM2 : Hid (∀ W v P1 R1, Below w.heap.size w W → Fr.RdF W v false P1 R1 → Fr.Sml P1 R1 → Calls Tryz.prog 84 #[v, .agg #[.bool false, .slice na (Fr.dig P).length nc, .bool false, .slice da (Fr.dig Qd).length dc]] W (Ret W (.int .i64 (Fr.sgn (P1 * Qd) (P * R1))))) := hid (fun W v P1 R1 hW hv hsm => HCMP.out W v P1 R1 hpd hW hv hsm)
       clear HFVP HCMP
       go_wp2_with fail
       with_reducible refine (HFV2.out W9 HB9.out).mono ?_
       rintro e w10 ⟨rfl, hb10⟩
       have HC10 := hid (HC9.out.trans (hb10.mono HC9.out.size))
       have HB10 := hid (HB9.out.trans (hb10.mono HB9.out.size))
       have HX10 := hid (HX9.out.below hb10 HX9.out.lt)
       have HN10 := hid (HN9.out.kept hb10)
       clear x0 x1 x2 y0' y1' y2' y3' y4' y5' z0 z1 z2 z3 hb10
       obtain ⟨x0, x1, x2, y0', y1', y2', y3', y4', y5'⟩ := hcells.out w10 HC10.out
       have z0 := HX10.out.cell 0 rfl
       have z1 := HX10.out.cell 1 rfl
       have z2 := HX10.out.cell 2 rfl
       have z3 := HX10.out.cell 3 rfl
       have HCM3 := hid (HCM2.out w10 _ _ _ HB10.out (HN10.out.rd false) HSM.out)
       generalize Fr.sgn (low / Nat.gcd low dd1 * Qd) (P * (dd1 / Nat.gcd low dd1)) = sg at *
       go_wp2_with fail
       with_reducible refine HCM3.out.mono ?_
       rintro e w11 ⟨rfl, hb11⟩
       have HC11 := hid (HC10.out.trans (hb11.mono HC10.out.size))
       have HB11 := hid (HB10.out.trans (hb11.mono HB10.out.size))
       clear x0 x1 x2 y0' y1' y2' y3' y4' y5' z0 z1 z2 z3 hb11
       by_cases hsg : sg = 0
       ·have HOKP : Hid (hitOkB cs den kn ds p = true) := hid (by rw [HH2.out, decide_eq_true hsg]; simp)
        have hsg2 : (sg != 0) = false := by simpa using hsg
        obtain ⟨w12, hrun, hm12, hg12⟩ := (HMX.out w11 HC11.out).update (z := (c : Int)) (by unfold W64; have := HNC.out; omega) (by unfold maxLen; omega)
        have HB12 := hid (HB11.out.grown hg12 HB11.out.size (fun k hk => by have h1 := Option.some.inj hk; omega))
        have HX12 := hid ((HXX.out w11 HC11.out).grown hg12 (by intro h1; have := Option.some.inj h1; omega))
        have HM12 := hid hm12
        clear hm12 hg12
        go_wp2_with fail
        go_roundg (gk - 1)
        case rel => exact ⟨p + 1, (if takenF cs ds p (c : Int) then kk else kk + 1), by go_num, by omega, by split <;> omega, HB12, trivial, hid (by rw [HTSP.out]; exact HM12.out), HX12, hid (fun i hi => by
         rcases Nat.lt_or_ge i p with h1 | h1
         ·exact HALL.out i h1
         ·obtain rfl : i = p := by omega
          exact HOKP.out)⟩
        case measure => omega
       ·have HR := hid (HNOP.out (by rw [HH2.out, decide_eq_false hsg]; simp))
        have hsg2 : (sg != 0) = true := by simpa using hsg
        go_wp2
        go_ret
        exact ⟨by rw [HR.out]; rfl, HB11.out⟩
      ·have HR := hid (HNOP.out (by rw [HH2.out, decide_eq_false hlh]; simp))
       have hne : ¬ (low : Int) = (high : Int) := by omega
       go_wp2
       go_ret
       exact ⟨by rw [HR.out]; rfl, HB9.out⟩
     ·obtain rfl : low = 0 := by omega
      have HR := hid (HNOP.out (by rw [HH2.out]; rfl))
      clear hpos
      go_wp2
      go_ret
      exact ⟨by rw [HR.out]; rfl, HB9.out⟩
    ·obtain ⟨pp, hpp⟩ : ∃ pp, pp = p - 1 := ⟨_, rfl⟩
     have HFS : Hid ((decide (p = 0) || decide (cfM y0 ⟨ta, ca, (na, nc), (da, dc), P, Qd⟩ < 0)) = decide (cfM y0 ⟨ta, ca, (na, nc), (da, dc), P, Qd⟩ < 0)) := hid (by rw [decide_eq_false hpz]; rfl)
     rw [← hpp] at HORP HHTP
     have hkw : IntKind.i64.wrap ((p : Int) - 1) = (pp : Int) := by rw [IntKind.wrap_i64]; omega
     have hppl : (pp : Int) < (NH : Int) := by omega
     have hppd : pp < ds.length := by have := HNH.out; omega
     have hpz2 : (0 : Int) < (p : Int) := by omega
     have hpn1 : pp + 1 ≤ p := by omega
     have hpn2 : p ≤ pp + 1 := by omega
     have hg2 : decide (0 < p) = true := decide_eq_true (by omega)
     have HORQ := hid (fun W hW => HORP.out W hppd hpd hW)
     obtain ⟨hb', ho', hc', e, hbl', hcl'⟩ := HHTP.out w4 hppd HB4.out
     obtain ⟨e4, -, e5⟩ := Value.slice.inj e
     have e6 := Option.some.inj e4
     obtain rfl : hb = hb' := congrArg Addr.block e6
     obtain rfl : ho0 = ho' := congrArg Addr.off e6
     clear HORP HHTP hpp e e4 e5 e6
     generalize cfM y0 ⟨ta, ca, (na, nc), (da, dc), P, Qd⟩ = cf at *
     obtain ⟨tb, cb, ⟨nb, nd⟩, ⟨db, dd⟩, P0, Q0⟩ := y0
     have c0 : w4.cell? ⟨hb, ho0 + pp * 6, none⟩ = some (.int .i64 tb) := by have h3 := hcl' 0 (by omega); rw [Nat.add_zero] at h3; exact h3
     have c1 : w4.cell? ⟨hb, ho0 + pp * 6 + 1, none⟩ = some (.int .i64 cb) := hcl' 1 (by omega)
     have c2 : w4.cell? ⟨hb, ho0 + pp * 6 + 2, none⟩ = some (.bool false) := hcl' 2 (by omega)
     have c3 : w4.cell? ⟨hb, ho0 + pp * 6 + 3, none⟩ = some (.slice nb (Fr.dig P0).length nd) := hcl' 3 (by omega)
     have c4 : w4.cell? ⟨hb, ho0 + pp * 6 + 4, none⟩ = some (.bool false) := hcl' 4 (by omega)
     have c5 : w4.cell? ⟨hb, ho0 + pp * 6 + 5, none⟩ = some (.slice db (Fr.dig Q0).length dd) := hcl' 5 (by omega)
     have hbl4 : hb < w4.heap.size := Nat.lt_of_lt_of_le hbl' HB4.out.size
     have HORQ : Hid (∀ W, Below w.heap.size w W → Calls Tryz.prog 81 #[.agg #[.int .i64 tb, .int .i64 cb, .bool false, .slice nb (Fr.dig P0).length nd, .bool false, .slice db (Fr.dig Q0).length dd], .agg #[.int .i64 ta, .int .i64 ca, .bool false, .slice na (Fr.dig P).length nc, .bool false, .slice da (Fr.dig Qd).length dc]] W (fun e w' => e = .returned (.int .i64 cf) ∧ Below W.heap.size W w')) := hid HORQ.out
     have HG := hid (fun W (hW : Below w4.heap.size w4 W) => (by
      have h1 := hcells.out W (HC4.out.trans (hW.mono HC4.out.size))
      exact ⟨h1.2.2.2.1, h1.2.2.2.2.1, h1.2.2.2.2.2.1, h1.2.2.2.2.2.2.1, h1.2.2.2.2.2.2.2.1, h1.2.2.2.2.2.2.2.2, (hW.cell (p := ⟨hb, ho0 + pp * 6, none⟩) hbl4).trans c0, (hW.cell (p := ⟨hb, ho0 + pp * 6 + 1, none⟩) hbl4).trans c1, (hW.cell (p := ⟨hb, ho0 + pp * 6 + 2, none⟩) hbl4).trans c2, (hW.cell (p := ⟨hb, ho0 + pp * 6 + 3, none⟩) hbl4).trans c3, (hW.cell (p := ⟨hb, ho0 + pp * 6 + 4, none⟩) hbl4).trans c4, (hW.cell (p := ⟨hb, ho0 + pp * 6 + 5, none⟩) hbl4).trans c5⟩ : W.cell? ⟨hbk, 0, none⟩ = some (.int .i64 ta) ∧ W.cell? ⟨hbk, 1, none⟩ = some (.int .i64 ca) ∧ W.cell? ⟨hbk, 2, none⟩ = some (.bool false) ∧ W.cell? ⟨hbk, 3, none⟩ = some (.slice na (Fr.dig P).length nc) ∧ W.cell? ⟨hbk, 4, none⟩ = some (.bool false) ∧ W.cell? ⟨hbk, 5, none⟩ = some (.slice da (Fr.dig Qd).length dc) ∧ W.cell? ⟨hb, ho0 + pp * 6, none⟩ = some (.int .i64 tb) ∧ W.cell? ⟨hb, ho0 + pp * 6 + 1, none⟩ = some (.int .i64 cb) ∧ W.cell? ⟨hb, ho0 + pp * 6 + 2, none⟩ = some (.bool false) ∧ W.cell? ⟨hb, ho0 + pp * 6 + 3, none⟩ = some (.slice nb (Fr.dig P0).length nd) ∧ W.cell? ⟨hb, ho0 + pp * 6 + 4, none⟩ = some (.bool false) ∧ W.cell? ⟨hb, ho0 + pp * 6 + 5, none⟩ = some (.slice db (Fr.dig Q0).length dd)))
     have HD := hid (show Below w4.heap.size w4 w4.drew by have h1 := Below.refl w4.heap.size w4; repeat' (first | (with_reducible exact Below.refl _ _) | (with_reducible assumption) | (with_reducible refine below_drewN ?_) | (with_reducible refine Below.alloc ?_ ?_ _) | (with_reducible refine Below.drew ?_) | (with_reducible refine Below.setCell ?_ ?_ _) | (with_reducible refine Below.trans ?_ (Below.mono (by with_reducible assumption) ?_)) | go_size))
     clear hcl' hbl' x0 x1 x2 y0' y1' y2' y3' y4' y5' c0 c1 c2 c3 c4 c5
     by_cases hcf : cf < 0
     ·have hcg : decide (0 ≤ cf) = false := decide_eq_false (by omega)
      have hcf2 : ¬ 0 ≤ cf := by omega
      go_region_held3 (fun W => W.cell? ⟨hbk, 0, none⟩ = some (.int .i64 ta) ∧ W.cell? ⟨hbk, 1, none⟩ = some (.int .i64 ca) ∧ W.cell? ⟨hbk, 2, none⟩ = some (.bool false) ∧ W.cell? ⟨hbk, 3, none⟩ = some (.slice na (Fr.dig P).length nc) ∧ W.cell? ⟨hbk, 4, none⟩ = some (.bool false) ∧ W.cell? ⟨hbk, 5, none⟩ = some (.slice da (Fr.dig Qd).length dc) ∧ W.cell? ⟨hb, ho0 + pp * 6, none⟩ = some (.int .i64 tb) ∧ W.cell? ⟨hb, ho0 + pp * 6 + 1, none⟩ = some (.int .i64 cb) ∧ W.cell? ⟨hb, ho0 + pp * 6 + 2, none⟩ = some (.bool false) ∧ W.cell? ⟨hb, ho0 + pp * 6 + 3, none⟩ = some (.slice nb (Fr.dig P0).length nd) ∧ W.cell? ⟨hb, ho0 + pp * 6 + 4, none⟩ = some (.bool false) ∧ W.cell? ⟨hb, ho0 + pp * 6 + 5, none⟩ = some (.slice db (Fr.dig Q0).length dd))
       (first | exact HG.out _ HD.out | go_keep)
       (first
        | (go_at_call 81; go_must ((with_reducible refine (HORQ.out _ (HB4.out.trans (HD.out.mono HB4.out.size))).mono ?_); rintro e w5 ⟨rfl, hb5⟩; have HD := hid (Fr.belowT HD.out hb5); clear hb5)))
      all_goals
       have HC6 := hid (HC4.out.trans (HD.out.mono HC4.out.size))
       have HB6 := hid (HB4.out.trans (HD.out.mono HB4.out.size))
       have HFST : Hid ((decide (p = 0) || decide (cf < 0)) = true) := hid (by rw [HFS.out, decide_eq_true hcf])
       have HKNP0 := hid (fun W hW => HKN.out c W hc hW)
       have hbnd := HKB.out c hc
       have hsz := HSZ.out c
       have HH20 : Hid (hitOkB cs den kn ds p = (decide (0 < (kn c).1) && (decide ((kn c).1 = (kn c).2) && decide (Fr.sgn ((kn c).1 / Nat.gcd (kn c).1 (den (kn c).1 (sizeC cs c)) * Qd) (P * (den (kn c).1 (sizeC cs c) / Nat.gcd (kn c).1 (den (kn c).1 (sizeC cs c)))) = 0)))) := hid (by
        rw [HHOP.out, HFST.out]
        simp only [Int.toNat_natCast]
        rw [decide_eq_true (Int.natCast_nonneg c), Bool.true_and, Bool.true_and])
       clear HHOP HFST
       have HDP0 := hid (HDEN.out (kn c).1 (sizeC cs c))
       have HDS0 := hid (HDSM.out (kn c).1 (sizeC cs c))
       generalize hkc : kn c = kc at HKNP0 hbnd HH20 HDP0 HDS0
       obtain ⟨low, high⟩ := kc
       obtain ⟨hb1, hb2, hb3, hb4⟩ := hbnd
       have HH2 : Hid (hitOkB cs den kn ds p = (decide (0 < low) && (decide (low = high) && decide (Fr.sgn (low / Nat.gcd low (den low (sizeC cs c)) * Qd) (P * (den low (sizeC cs c) / Nat.gcd low (den low (sizeC cs c)))) = 0)))) := hid HH20.out
       have HKNP : Hid (∀ W, Below w.heap.size w W → Calls Tryz.prog 80 #[.int .i64 (c : Int), .pointer (some ⟨k1, 0, none⟩), .pointer (some ⟨k2, 0, none⟩), .pointer (some ⟨k3, 0, none⟩)] W (Ret W (.tuple #[.int .i64 (low : Int), .int .i64 (high : Int)]))) := hid HKNP0.out
       have hb1 : low ≤ Q := hb1
       have hb2 : low ≤ sizeC cs c := hb2
       have HDP : Hid (0 < low → 0 < den low (sizeC cs c)) := hid (fun h => HDP0.out h hb1 hb2)
       have HDS : Hid (0 < low → den low (sizeC cs c) < 4294967296) := hid (fun h => HDS0.out h hb1 hb2 hsz)
       have HPSP := hid (fun W hW => HPS.out low (sizeC cs c) W hb1 hb2 hsz hW)
       obtain ⟨eb, eo, rfl, hce⟩ := HEN.out c _ hc HB6.out
       have HSE := hid ((HEF.out c hc).2.2)
       have HCE := hid (fun W hW => (HEN.out c W hc hW))
       clear hce hkc HKNP0 HH20 HDP0 HDS0
       generalize den low (sizeC cs c) = dd1 at *
       generalize sizeC cs c = SZ at *
       go_wp2_with fail
       with_reducible refine (HKNP.out _ HB6.out).mono ?_
       rintro e w7 ⟨rfl, hb7⟩
       have HC7 := hid (HC6.out.trans (hb7.mono HC6.out.size))
       have HB7 := hid (HB6.out.trans (hb7.mono HB6.out.size))
       clear hb7 HKNP
       obtain ⟨x0, x1, x2, y0', y1', y2', y3', y4', y5'⟩ := hcells.out w7 HC7.out
       obtain ⟨eb', eo', e, hce⟩ := HCE.out w7 HB7.out
       have e6 := Option.some.inj e
       obtain rfl : eb = eb' := congrArg Addr.block e6
       obtain rfl : eo = eo' := congrArg Addr.off e6
       have c2 : w7.cell? ⟨eb, eo + c * 3 + 2, none⟩ = some (.int .i64 ((SZ : Nat) : Int)) := (hce 2 (by omega)).trans (congrArg some HSE.out)
       clear hce e e6
       have hci3 : (c : Int) < (NC : Int) := by have := HNC.out; omega
       go_wp2_with fail
       with_reducible refine (HPSP.out w7 HB7.out).mono ?_
       rintro e w8 ⟨s1, s2, pa, pb, pc, pk, pl1, pl2, rfl, hb8, hpos⟩
       have HC8 := hid (HC7.out.trans (hb8.mono HC7.out.size))
       have HB8 := hid (HB7.out.trans (hb8.mono HB7.out.size))
       clear x0 x1 x2 y0' y1' y2' y3' y4' y5' c2 hb8 HPSP
       have HC9 := hid (HC8.out.alloc HC8.out.size (.cells #[.bool s1, .slice pa pl1 pc, .bool s2, .slice pb pl2 pk] 45))
       have HB9 := hid (HB8.out.alloc HB8.out.size (.cells #[.bool s1, .slice pa pl1 pc, .bool s2, .slice pb pl2 pk] 45))
       have HX9 := hid (BoxN.new w8 #[.bool s1, .slice pa pl1 pc, .bool s2, .slice pb pl2 pk] 45)
       by_cases h0 : 0 < low
       ·obtain ⟨rfl, rfl, rfl, rfl, hN⟩ := hpos h0
        have HN9 := hid (hN.kept ((Below.refl w8.heap.size w8).alloc (Nat.le_refl _) (.cells #[.bool false, .slice pa (Fr.dig (low / Nat.gcd low dd1)).length pc, .bool false, .slice pb (Fr.dig (dd1 / Nat.gcd low dd1)).length pk] 45)))
        have HSM := hid (sml_ofB (c := low) (d := dd1) (HDP.out h0) (by have := hsz; omega) (HDS.out h0))
        have HGT := hid (decide_eq_true h0)
        rw [HGT.out] at HH2
        rw [HGT.out]
        go_upto_region 10 with fail
        obtain ⟨W9, hW9⟩ : ∃ V, V = w8.alloc (.cells #[.bool false, .slice pa (Fr.dig (low / Nat.gcd low dd1)).length pc, .bool false, .slice pb (Fr.dig (dd1 / Nat.gcd low dd1)).length pk] 45) := ⟨_, rfl⟩
        rw [← hW9] at HC9 HB9 HX9 HN9 ⊢
        clear hW9 hN hpos
        by_cases hlh : low = high
        ·subst hlh
         have hii : ((low : Nat) : Int) = (low : Int) := rfl
         obtain ⟨x0, x1, x2, y0', y1', y2', y3', y4', y5'⟩ := hcells.out W9 HC9.out
         have z0 := HX9.out.cell 0 rfl
         have z1 := HX9.out.cell 1 rfl
         have z2 := HX9.out.cell 2 rfl
         have z3 := HX9.out.cell 3 rfl
         have HFV2 : Hid (∀ W, Below w.heap.size w W → Calls Tryz.prog 57 #[.agg #[.bool false, .slice na (Fr.dig P).length nc, .bool false, .slice da (Fr.dig Qd).length dc]] W (Ret W (.bool true))) := hid (fun W hW => HFVP.out W hpd hW)
         have HCM2 : Hid (∀ W v P1 R1, Below w.heap.size w W → Fr.RdF W v false P1 R1 → Fr.Sml P1 R1 → Calls Tryz.prog 84 #[v, .agg #[.bool false, .slice na (Fr.dig P).length nc, .bool false, .slice da (Fr.dig Qd).length dc]] W (Ret W (.int .i64 (Fr.sgn (P1 * Qd) (P * R1))))) := hid (fun W v P1 R1 hW hv hsm => HCMP.out W v P1 R1 hpd hW hv hsm)
         clear HFVP HCMP
         go_wp2_with fail
         with_reducible refine (HFV2.out W9 HB9.out).mono ?_
         rintro e w10 ⟨rfl, hb10⟩
         have HC10 := hid (HC9.out.trans (hb10.mono HC9.out.size))
         have HB10 := hid (HB9.out.trans (hb10.mono HB9.out.size))
         have HX10 := hid (HX9.out.below hb10 HX9.out.lt)
         have HN10 := hid (HN9.out.kept hb10)
         clear x0 x1 x2 y0' y1' y2' y3' y4' y5' z0 z1 z2 z3 hb10
         obtain ⟨x0, x1, x2, y0', y1', y2', y3', y4', y5'⟩ := hcells.out w10 HC10.out
         have z0 := HX10.out.cell 0 rfl
         have z1 := HX10.out.cell 1 rfl
         have z2 := HX10.out.cell 2 rfl
         have z3 := HX10.out.cell 3 rfl
         have HCM3 := hid (HCM2.out w10 _ _ _ HB10.out (HN10.out.rd false) HSM.out)
         generalize Fr.sgn (low / Nat.gcd low dd1 * Qd) (P * (dd1 / Nat.gcd low dd1)) = sg at *
         go_wp2_with fail
         with_reducible refine HCM3.out.mono ?_
         rintro e w11 ⟨rfl, hb11⟩
         have HC11 := hid (HC10.out.trans (hb11.mono HC10.out.size))
         have HB11 := hid (HB10.out.trans (hb11.mono HB10.out.size))
         clear x0 x1 x2 y0' y1' y2' y3' y4' y5' z0 z1 z2 z3 hb11
         by_cases hsg : sg = 0
         ·have HOKP : Hid (hitOkB cs den kn ds p = true) := hid (by rw [HH2.out, decide_eq_true hsg]; simp)
          have hsg2 : (sg != 0) = false := by simpa using hsg
          obtain ⟨w12, hrun, hm12, hg12⟩ := (HMX.out w11 HC11.out).update (z := (c : Int)) (by unfold W64; have := HNC.out; omega) (by unfold maxLen; omega)
          have HB12 := hid (HB11.out.grown hg12 HB11.out.size (fun k hk => by have h1 := Option.some.inj hk; omega))
          have HX12 := hid ((HXX.out w11 HC11.out).grown hg12 (by intro h1; have := Option.some.inj h1; omega))
          have HM12 := hid hm12
          clear hm12 hg12
          go_wp2_with fail
          go_roundg (gk - 1)
          case rel => exact ⟨p + 1, (if takenF cs ds p (c : Int) then kk else kk + 1), by go_num, by omega, by split <;> omega, HB12, trivial, hid (by rw [HTSP.out]; exact HM12.out), HX12, hid (fun i hi => by
           rcases Nat.lt_or_ge i p with h1 | h1
           ·exact HALL.out i h1
           ·obtain rfl : i = p := by omega
            exact HOKP.out)⟩
          case measure => omega
         ·have HR := hid (HNOP.out (by rw [HH2.out, decide_eq_false hsg]; simp))
          have hsg2 : (sg != 0) = true := by simpa using hsg
          go_wp2
          go_ret
          exact ⟨by rw [HR.out]; rfl, HB11.out⟩
        ·have HR := hid (HNOP.out (by rw [HH2.out, decide_eq_false hlh]; simp))
         have hne : ¬ (low : Int) = (high : Int) := by omega
         go_wp2
         go_ret
         exact ⟨by rw [HR.out]; rfl, HB9.out⟩
       ·obtain rfl : low = 0 := by omega
        have HR := hid (HNOP.out (by rw [HH2.out]; rfl))
        clear hpos
        go_wp2
        go_ret
        exact ⟨by rw [HR.out]; rfl, HB9.out⟩
     ·have hcg : decide (0 ≤ cf) = true := decide_eq_true (by omega)
      have hcf2 : 0 ≤ cf := by omega
      go_region_held3 (fun W => W.cell? ⟨hbk, 0, none⟩ = some (.int .i64 ta) ∧ W.cell? ⟨hbk, 1, none⟩ = some (.int .i64 ca) ∧ W.cell? ⟨hbk, 2, none⟩ = some (.bool false) ∧ W.cell? ⟨hbk, 3, none⟩ = some (.slice na (Fr.dig P).length nc) ∧ W.cell? ⟨hbk, 4, none⟩ = some (.bool false) ∧ W.cell? ⟨hbk, 5, none⟩ = some (.slice da (Fr.dig Qd).length dc) ∧ W.cell? ⟨hb, ho0 + pp * 6, none⟩ = some (.int .i64 tb) ∧ W.cell? ⟨hb, ho0 + pp * 6 + 1, none⟩ = some (.int .i64 cb) ∧ W.cell? ⟨hb, ho0 + pp * 6 + 2, none⟩ = some (.bool false) ∧ W.cell? ⟨hb, ho0 + pp * 6 + 3, none⟩ = some (.slice nb (Fr.dig P0).length nd) ∧ W.cell? ⟨hb, ho0 + pp * 6 + 4, none⟩ = some (.bool false) ∧ W.cell? ⟨hb, ho0 + pp * 6 + 5, none⟩ = some (.slice db (Fr.dig Q0).length dd))
       (first | exact HG.out _ HD.out | go_keep)
       (first
        | (go_at_call 81; go_must ((with_reducible refine (HORQ.out _ (HB4.out.trans (HD.out.mono HB4.out.size))).mono ?_); rintro e w5 ⟨rfl, hb5⟩; have HD := hid (Fr.belowT HD.out hb5); clear hb5)))
      all_goals
       have HR := hid (HNOP.out (by rw [HHOP.out, HFS.out, decide_eq_false (show ¬ cf < 0 by omega)]; simp))
       go_wp2
       go_ret
       exact ⟨by rw [HR.out]; rfl, HB4.out.trans (HD.out.mono HB4.out.size)⟩
  ·obtain rfl : gk = 0 := by omega
   obtain rfl : p = NH := by omega
   have HALL2 : Hid (∀ i, i < ds.length → hitOkB cs den kn ds i = true) := hid (fun i hi => HALL.out i (by have := HNH.out; omega))
   have HTN : Hid (takenF cs ds p = takenF cs ds ds.length) := hid (by rw [HNH.out])
   rw [HTN.out] at HM2
   have x0 := HX2.out.cell 0 rfl
   have x1 := HX2.out.cell 1 rfl
   have x2 := HX2.out.cell 2 rfl
   clear HALL HTN hp HHO HPC HFV HCM HPL HOR HTS HNO1 HHT
   go_wp2_with fail
   generalize wr.heap.size = zz0 at *
   go_loopg [97, 19, 20, 21, 22, 23, 24] NC (fun K i v1 v2 v3 v4 v5 v6 wr => ∃ c : Nat, i = .int .i64 (c : Int) ∧ c + K = NC ∧ Hid (Below w.heap.size w wr) ∧ Hid (MapB wr mb kk (takenF cs ds ds.length)) ∧ Hid (∀ i, i < c → colOkB cs kn oth ds i = true))
   case atStart => exact ⟨0, rfl, by omega, HB2, HM2, hid (fun i hi => absurd hi (by omega))⟩
   case round =>
    obtain ⟨c, rfl, hc0, HB3, HM3, HALC⟩ := hrel
    clear HB2 HM2
    by_cases hcc : 0 < gk
    ·have hci : (c : Int) < (NC : Int) := by omega
     have hc : c < cs.length := by have := HNC.out; omega
     have HKNP0 := hid (fun W hW => HKN.out c W hc hW)
     have hbnd := HKB.out c hc
     have hsz := HSZ.out c
     have HCC := hid (HCO.out c)
     have HNOC := hid (HNO2.out c hc)
     have HOTC0 := hid (fun W a b m n h1 h2 h3 h4 => HOT.out c W a b m n hc h1 h2 h3 h4)
     obtain ⟨eb, eo, e, hce⟩ := HEN.out c wr hc HB3.out
     have HSE := hid (HEF.out c hc)
     have c0 : wr.cell? ⟨eb, eo + c * 3, none⟩ = some (.int .i64 (cs.getD c Cv.z).1.1) := by have h := (hce 0 (by omega)).trans (congrArg some HSE.out.1); rw [Nat.add_zero] at h; exact h
     have c1 : wr.cell? ⟨eb, eo + c * 3 + 1, none⟩ = some (.int .i64 ((cs.getD c Cv.z).1.2 : Int)) := (hce 1 (by omega)).trans (congrArg some HSE.out.2.1)
     have c2 : wr.cell? ⟨eb, eo + c * 3 + 2, none⟩ = some (.int .i64 ((sizeC cs c : Nat) : Int)) := (hce 2 (by omega)).trans (congrArg some HSE.out.2.2)
     subst e
     have HSTEP : Hid (colOkB cs kn oth ds c = true → ∀ i, i < c + 1 → colOkB cs kn oth ds i = true) := hid (fun h i hi => by
      rcases Nat.lt_or_ge i c with h1 | h1
      ·exact HALC.out i h1
      ·obtain rfl : i = c := by omega
       exact h)
     clear hce HSE
     generalize hkc : kn c = kc at HKNP0 hbnd HCC HOTC0
     obtain ⟨low, high⟩ := kc
     obtain ⟨-, -, hb3, hb4⟩ := hbnd
     have hb3 : high ≤ Q := hb3
     have hb4 : high ≤ sizeC cs c := hb4
     have HCC : Hid (colOkB cs kn oth ds c = (!decide (0 < high) || ((takenF cs ds ds.length (c : Int)) || oth c))) := hid HCC.out
     have HKNP : Hid (∀ W, Below w.heap.size w W → Calls Tryz.prog 80 #[.int .i64 (c : Int), .pointer (some ⟨k1, 0, none⟩), .pointer (some ⟨k2, 0, none⟩), .pointer (some ⟨k3, 0, none⟩)] W (Ret W (.tuple #[.int .i64 (low : Int), .int .i64 (high : Int)]))) := hid HKNP0.out
     have HPSP := hid (fun W hW => HPS.out high (sizeC cs c) W hb3 hb4 hsz hW)
     have HOTC : Hid (∀ W a b m n, 0 < high → Below w.heap.size w W → Fr.Rd32 W (.slice a (Fr.dig (high / Nat.gcd high (den high (sizeC cs c)))).length m) (Fr.dig (high / Nat.gcd high (den high (sizeC cs c)))) → Fr.Rd32 W (.slice b (Fr.dig (den high (sizeC cs c) / Nat.gcd high (den high (sizeC cs c)))).length n) (Fr.dig (den high (sizeC cs c) / Nat.gcd high (den high (sizeC cs c)))) → Calls Tryz.prog 134 #[.agg #[.int .i64 (cs.getD c Cv.z).1.1, .int .i64 ((cs.getD c Cv.z).1.2 : Int), .bool false, .slice a (Fr.dig (high / Nat.gcd high (den high (sizeC cs c)))).length m, .bool false, .slice b (Fr.dig (den high (sizeC cs c) / Nat.gcd high (den high (sizeC cs c)))).length n], .pointer (some ⟨o1, 0, none⟩), .pointer (some ⟨o2, 0, none⟩)] W (Ret W (.bool (oth c)))) := hid HOTC0.out
     clear HKNP0 HOTC0 hkc
     generalize den high (sizeC cs c) = dd1 at *
     generalize sizeC cs c = SZ at *
     generalize (cs.getD c Cv.z).1.1 = ta at *
     generalize ((cs.getD c Cv.z).1.2 : Int) = ca at *
     generalize oth c = oc at *
     have HB4 := hid (HB3.out.alloc HB3.out.size (.cells #[.int .i64 ta, .int .i64 ca, .int .i64 ((SZ : Nat) : Int)] 73))
     have hxe := BoxN.new wr #[.int .i64 ta, .int .i64 ca, .int .i64 ((SZ : Nat) : Int)] 73
     have hmx := HM3.out.alloc (.cells #[.int .i64 ta, .int .i64 ca, .int .i64 ((SZ : Nat) : Int)] 73)
     go_upto_region 17 with fail
     obtain ⟨ebk, hebk⟩ : ∃ n, n = wr.heap.size := ⟨_, rfl⟩
     rw [← hebk] at hxe ⊢
     clear hebk
     generalize wr.alloc (.cells #[.int .i64 ta, .int .i64 ca, .int .i64 ((SZ : Nat) : Int)] 73) = W4 at *
     have HXE := hid hxe
     have HMX := hid hmx
     clear hxe hmx c0 c1 c2
     go_wp2_with fail
     with_reducible refine (HKNP.out W4 HB4.out).mono ?_
     rintro e w7 ⟨rfl, hb7⟩
     have HC7 := hid hb7
     have HB7 := hid (HB4.out.trans (hb7.mono HB4.out.size))
     have HX7 := hid (HXE.out.below hb7 HXE.out.lt)
     have x2 := HX7.out.cell 2 rfl
     clear hb7 HKNP
     go_wp2_with fail
     with_reducible refine (HPSP.out w7 HB7.out).mono ?_
     rintro e w8 ⟨s1, s2, pa, pb, pc, pk, pl1, pl2, rfl, hb8, hpos⟩
     have HC8 := hid (HC7.out.trans (hb8.mono HC7.out.size))
     have HB8 := hid (HB7.out.trans (hb8.mono HB7.out.size))
     clear x2 HPSP
     have HC9 := hid (HC8.out.alloc HC8.out.size (.cells #[.bool s1, .slice pa pl1 pc, .bool s2, .slice pb pl2 pk] 45))
     have HB9 := hid (HB8.out.alloc HB8.out.size (.cells #[.bool s1, .slice pa pl1 pc, .bool s2, .slice pb pl2 pk] 45))
     have HX9 := hid (BoxN.new w8 #[.bool s1, .slice pa pl1 pc, .bool s2, .slice pb pl2 pk] 45)
     clear hb8
     by_cases h0 : 0 < high
     ·obtain ⟨rfl, rfl, rfl, rfl, hN⟩ := hpos h0
      have HN9 := hid (hN.kept ((Below.refl w8.heap.size w8).alloc (Nat.le_refl _) (.cells #[.bool false, .slice pa (Fr.dig (high / Nat.gcd high dd1)).length pc, .bool false, .slice pb (Fr.dig (dd1 / Nat.gcd high dd1)).length pk] 45)))
      have HGT := hid (decide_eq_true h0)
      rw [HGT.out] at HCC
      rw [HGT.out]
      go_upto_region 19 with fail
      obtain ⟨W9, hW9⟩ : ∃ V, V = w8.alloc (.cells #[.bool false, .slice pa (Fr.dig (high / Nat.gcd high dd1)).length pc, .bool false, .slice pb (Fr.dig (dd1 / Nat.gcd high dd1)).length pk] 45) := ⟨_, rfl⟩
      rw [← hW9] at HC9 HB9 HX9 HN9 ⊢
      clear hW9 hN hpos
      have HM9 := hid (HMX.out.below HC9.out HMX.out.lt)
      have hlook := HM9.out.look (z := (c : Int)) (by unfold W64; have := HNC.out; omega)
      have HXE9 := hid (HXE.out.below HC9.out HXE.out.lt)
      generalize takenF cs ds ds.length (c : Int) = tk at *
      cases tk
      ·have z0 := HX9.out.cell 0 rfl
       have z1 := HX9.out.cell 1 rfl
       have z2 := HX9.out.cell 2 rfl
       have z3 := HX9.out.cell 3 rfl
       have y0 := HXE9.out.cell 0 rfl
       have y1 := HXE9.out.cell 1 rfl
       have HOQ := hid (HOTC.out W9 pa pb pc pk h0 HB9.out HN9.out.1 HN9.out.2.1)
       generalize (Fr.dig (high / Nat.gcd high dd1)).length = l1 at *
       generalize (Fr.dig (dd1 / Nat.gcd high dd1)).length = l2 at *
       go_wp2_with fail
       with_reducible refine HOQ.out.mono ?_
       rintro e w10 ⟨rfl, hb10⟩
       have HB10 := hid (HB9.out.trans (hb10.mono HB9.out.size))
       have HM10 := hid (HM9.out.below hb10 HM9.out.lt)
       clear hb10 z0 z1 z2 z3 y0 y1 hlook
       cases oc
       ·have HR := hid (HNOC.out (by rw [HCC.out]; rfl))
        go_wp2
        go_ret
        exact ⟨by rw [HR.out]; rfl, HB10.out⟩
       ·have HY := hid (HSTEP.out (by rw [HCC.out]; rfl))
        go_wp2_with fail
        go_roundg (gk - 1)
        case rel => exact ⟨c + 1, by go_num, by omega, HB10, HM10, HY⟩
        case measure => omega
      ·have HY := hid (HSTEP.out (by rw [HCC.out]; rfl))
       go_wp2_with fail
       go_roundg (gk - 1)
       case rel => exact ⟨c + 1, by go_num, by omega, HB9, HM9, HY⟩
       case measure => omega
     ·obtain rfl : high = 0 := by omega
      have HY := hid (HSTEP.out (by rw [HCC.out]; rfl))
      have HM9 := hid (HMX.out.below HC9.out HMX.out.lt)
      clear hpos
      go_wp2_with fail
      go_roundg (gk - 1)
      case rel => exact ⟨c + 1, by go_num, by omega, HB9, HM9, HY⟩
      case measure => omega
    ·obtain rfl : gk = 0 := by omega
     obtain rfl : c = NC := by omega
     have HR := hid (HYES.out HALL2.out (fun i hi => HALC.out i (by have := HNC.out; omega)))
     go_wp2
     go_ret
     exact ⟨by rw [HR.out]; rfl, HB3.out⟩
end Go.Proofs.YtikiimlmoalbcaaGreatDoor
