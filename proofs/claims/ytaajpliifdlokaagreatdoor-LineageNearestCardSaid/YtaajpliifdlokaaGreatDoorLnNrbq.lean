/- Contract of law39's family. Plain: what the kit's family of tables is, and the ways up in it. Contract of the reference Find at a list of tables (from Nf). Contracts of the kit's Light, Roll: numbers that came in become dice. -/
import Derived.Deep.Cut
import Derived.Deep.CutRange
import Derived.Deep.RegionLawGrows
import Derived.Test.YtaajpliifdlokaaGreatDoorLnNrab
import Derived.Test.YtaajpliifdlokaaGreatDoorLnNrbl
import Derived.Test.YtaajpliifdlokaaGreatDoorLnNrbp
import Derived.Test.YtaajpliifdlokaaGreatDoorLnNrbg
import Derived.Test.YtaajpliifdlokaaGreatDoorLnNrbj
set_option linter.unusedVariables false
set_option linter.unusedSimpArgs false
namespace Go.Proofs.YtaajpliifdlokaaGreatDoor
open Go.RowKit
theorem info_taF : (Tryz.prog.info? 51).map (fun i => (i.zero, i.size, i.bytes)) = some (some (.agg #[.int .i64 0, .string ⟨#[]⟩, .slice none 0 0]), 3, 48) := by kernel_rfl
theorem DerL.trans {x y z : List Co} (h1 : DerL x y) (h2 : DerL y z) : DerL x z := fun P h0 hs => h2 P (h1 P h0 hs) hs
def FamQ (k : Ta) (t : Ta) : Prop := TabW t.name t.cols ∧ DerL (renL k.cols) t.cols
def FamP (w : World) (g : Nat) (e : Ending) (w' : World) : Prop :=
  ∃ (k : Ta) (ts : List Ta) (v : Value), e = .returned v ∧ KTabOk k ∧ 3 ≤ ts.length ∧ ts.length ≤ 4 ∧ (∀ i, i < ts.length → (ts.getD i Ta.z).id = (i : Int) + 1) ∧ (∀ t ∈ ts, FamQ k t) ∧ RdTa w' (News w w') v ts ∧ KDice w' g ∧ Roll w.heap.size g w w'
theorem dg_atF {q : Nat} (h : q < 3) : (#[.string ⟨#[48]⟩, .string ⟨#[49]⟩, .string ⟨#[50]⟩, .string ⟨#[51]⟩] : Array Value)[q]? = some (.string (dgL.getD q ⟨#[]⟩)) := by
  rcases (show q = 0 ∨ q = 1 ∨ q = 2 by omega) with rfl | rfl | rfl <;> rfl
theorem roll_storeF {B g : Nat} {a b : World} (h : Roll B g a b) {p : Addr} (hp : B ≤ p.block) (v : Value) : Roll B g a (b.setCell p v) :=
  h.trans ⟨rfl, rfl, rfl, by simp, fun k hk _ => Below.heap_setCell b p v k (by omega)⟩
theorem drew_rollF (X : World) (g : Nat) : Roll X.heap.size g X X.drew := (Roll.refl _ _ _).trans ⟨rfl, rfl, rfl, Nat.le_refl _, fun _ _ _ => rfl⟩
theorem ren_tabW {k : Ta} (h : KTabOk k) : TabW k.name (renL k.cols) := by
  obtain ⟨n, hn, hc⟩ := ren_cols h
  exact ⟨h.1.more (by omega), by rw [renL_len]; have := h.2.1; omega, n, by omega, hc⟩
set_option maxRecDepth 100000 in
set_option maxHeartbeats 8000000 in
theorem law39_family (g : Nat) (w : World) (hd : KDice w g) (hT : TabsAt g w) :
  Calls Tryz.prog 29 #[.pointer (some ⟨g, 0, none⟩)] w (FamP w g) := by
 have hgl := hd.lt
 have HT := hid hT
 have HKT : Hid (Calls Tryz.prog 49 #[.pointer (some ⟨g, 0, none⟩), .int .i64 0] w (KTab w g 0)) := hid (kit_Table g 0 w hd)
 clear hd hT
 go_enter Tryz.func29, Tryz.ntmps29
 generalize hLA : Code.loop _ = LA
 go_wp2_with fail
 with_reducible refine HKT.out.mono ?_
 rintro e w2 ⟨⟨id, nm, xs⟩, v, rfl, hid1, hok, hco, hd2, hr2⟩
 simp only at hid1 hok hco
 subst hid1
 have hz2 := hr2.size
 have hrd := hco.read
 obtain ⟨va, vc, rfl⟩ : ∃ a c, v = .slice a xs.length c := by
  obtain ⟨cv, ⟨a, c, e, -⟩, -⟩ := hrd
  exact ⟨a, c, e⟩
 have HOKK := hid hok
 have HRT := hid (ren_tabW hok)
 have hl3 : xs.length ≤ 3 := hok.2.1
 simp only at HRT
 have hz3 : (w2.alloc (.cells #[.int .i64 0, .string nm, .slice va xs.length vc] 51)).heap.size = w2.heap.size + 1 := by simp
 have HD3 := hid (hd2.alloc (.cells #[.int .i64 0, .string nm, .slice va xs.length vc] 51))
 have HTB3 := hid (BoxN.new w2 #[.int .i64 0, .string nm, .slice va xs.length vc] 51)
 have HR3 := hid (hr2.alloc (by omega) (.cells #[.int .i64 0, .string nm, .slice va xs.length vc] 51))
 have HCO3 := hid (hco.alloc (.cells #[.int .i64 0, .string nm, .slice va xs.length vc] 51))
 clear hrd hco hd2 hr2 hok HKT
 obtain ⟨L, hxl⟩ : ∃ L, L = xs.length := ⟨_, rfl⟩
 rw [← hxl] at HD3 HTB3 HR3 hz3 hl3 HCO3
 rw [← hxl]
 have HXE := hid hxl.symm
 clear hxl
 obtain ⟨W3, hW3⟩ : ∃ W3, W3 = w2.alloc (.cells #[.int .i64 0, .string nm, .slice va L vc] 51) := ⟨_, rfl⟩
 have x2 := HTB3.out.cell 2 rfl
 rw [← hW3] at HD3 HTB3 HR3 hz3 HCO3
 have hz3a := Nat.le_of_eq hz3
 have hz3b := Nat.le_of_eq hz3.symm
 clear hz3
 have HCO0 : Hid (CoSt W3 w.heap.size 55 (.slice va L vc) (renTo xs 0)) := hid (by rw [renTo_zero]; exact HCO3.out)
 clear HCO3
 go_wp2_with fail
 rw [← hW3]
 clear hW3 x2
 subst hLA
 go_loopg [15] L (fun N i wr => ∃ q : Nat, i = .int .i64 (q : Int) ∧ q + N = L ∧ Hid (Roll w.heap.size g W3 wr) ∧ Hid (KDice wr g) ∧ Hid (BoxN wr w2.heap.size 51 #[.int .i64 0, .string nm, .slice va L vc]) ∧ Hid (CoSt wr w.heap.size 55 (.slice va L vc) (renTo xs q)))
 case atStart => exact ⟨0, rfl, by omega, hid (Roll.refl _ _ _), HD3, HTB3, HCO0⟩
 case round =>
  obtain ⟨q, rfl, hq, HR, HD, HTB, HCO⟩ := hrel
  have hwr := HR.out.size
  by_cases hp : 0 < gk
  ·have hqL : q < L := by omega
   obtain ⟨cv, hnest⟩ := HCO.out
   have hrow := hnest.row
   rw [renTo_len, HXE.out] at hrow
   obtain ⟨b, cap, hg2, hgb, hglt⟩ := hrow.form (by omega)
   obtain ⟨rfl, -, rfl⟩ := Value.slice.inj hg2
   have k0 := (ycells hrow hqL).1
   have hfz := hrow.frozenAt (q * 2)
   simp only [coF, two] at k0
   rw [renTo_getD _ _ (by rw [HXE.out]; exact hqL), if_neg (by omega)] at k0
   have HPUT := hid (ren_put HCO.out HXE.out hqL)
   have hgt : b ≠ w2.heap.size := by
    intro e
    rw [e] at hrow
    obtain ⟨-, h2⟩ := hrow
    rcases h2 with ⟨e2, -⟩ | ⟨g2, cap2, cur2, e2, -, hc2, -⟩
    ·cases e2
    ·obtain ⟨e3, -, -⟩ := Value.slice.inj e2
     injection e3 with e4
     injection e4 with e5
     rw [← e5] at hc2
     have h3 := HTB.out
     unfold BoxN at h3
     rw [h3] at hc2
     cases hc2
   have hnm2 : (renC (xs.getD q Co.z) q).name = (xs.getD q Co.z).name ++ dgL.getD q ⟨#[]⟩ := rfl
   rw [hnm2] at HPUT
   have hdg := (BoxN.new wr #[.string ⟨#[48]⟩, .string ⟨#[49]⟩, .string ⟨#[50]⟩, .string ⟨#[51]⟩] 9).cell q (dg_atF (by omega))
   have x2 := HTB.out.cell 2 rfl
   have HTB4 := hid (HTB.out.alloc (.cells #[.string ⟨#[48]⟩, .string ⟨#[49]⟩, .string ⟨#[50]⟩, .string ⟨#[51]⟩] 9))
   have x2' := HTB4.out.cell 2 rfl
   have k0' := (World.cell?_alloc_lt wr (.cells #[.string ⟨#[48]⟩, .string ⟨#[49]⟩, .string ⟨#[50]⟩, .string ⟨#[51]⟩] 9) ⟨b, q * 2, none⟩ hglt).trans k0
   have hfz' := (hrow.alloc (.cells #[.string ⟨#[48]⟩, .string ⟨#[49]⟩, .string ⟨#[50]⟩, .string ⟨#[51]⟩] 9)).frozenAt (q * 2)
   have hqi : (q : Int) < (L : Int) := by omega
   have hq4 : (q : Int) < 4 := by omega
   have hsz : ¬ (9223372036854775807 < (xs.getD q Co.z).name.size + (dgL.getD q ⟨#[]⟩).size) := by
    obtain ⟨-, -, m, -, hc⟩ := HOKK.out
    have h1 := (kcolNames_ok _ (hc _ (getD_mem (l := xs) (i := q) (by rw [HXE.out]; exact hqL) Co.z)).1).1
    have h2 : (dgL.getD q ⟨#[]⟩).size ≤ 1 := by
     rcases (show q = 0 ∨ q = 1 ∨ q = 2 by omega) with rfl | rfl | rfl <;> decide
    omega
   clear hg2 hnest hrow hnm2
   generalize (xs.getD q Co.z).name = xn at *
   generalize dgL.getD q ⟨#[]⟩ = dg at *
   go_upto_region 5 with fail
   go_region
   have HPD := hid (HPUT.out.alloc (.cells #[.string ⟨#[48]⟩, .string ⟨#[49]⟩, .string ⟨#[50]⟩, .string ⟨#[51]⟩] 9))
   have HPE := hid (HPD.out.roll (drew_rollF _ g) (Nat.le_refl _) hgl)
   have hgb' : g < b := by omega
   have hrs : Roll w.heap.size g W3 (wr.setCell ⟨b, q * 2, none⟩ (.string (xn ++ dg))) := HR.out.trans ⟨rfl, rfl, rfl, by simp, fun k hk _ => Below.heap_setCell wr ⟨b, q * 2, none⟩ _ k (by show k ≠ b; omega)⟩
   have HRF := hid ((hrs.alloc (by simp; omega) (.cells #[.string ⟨#[48]⟩, .string ⟨#[49]⟩, .string ⟨#[50]⟩, .string ⟨#[51]⟩] 9)).drewN 1)
   clear hrs
   have HDF := hid (((HD.out.store (p := ⟨b, q * 2, none⟩) hgb' (.string (xn ++ dg))).alloc (.cells #[.string ⟨#[48]⟩, .string ⟨#[49]⟩, .string ⟨#[50]⟩, .string ⟨#[51]⟩] 9)).drew)
   have HTF := hid (((HTB.out.other (p := ⟨b, q * 2, none⟩) hgt (.string (xn ++ dg))).alloc (.cells #[.string ⟨#[48]⟩, .string ⟨#[49]⟩, .string ⟨#[50]⟩, .string ⟨#[51]⟩] 9)).drewN 1)
   clear k0 k0' hfz hfz' x2 x2' hdg
   go_wp2_with fail
   go_roundg (gk - 1)
   case rel => exact ⟨q + 1, by go_num, by omega, HRF, HDF, HTF, HPE⟩
   case measure => omega
  ·obtain rfl : gk = 0 := by omega
   obtain rfl : L = q := by omega
   have hco : CoSt wr w.heap.size 55 (.slice va L vc) (renL xs) := by
    have h := HCO.out
    have e := renTo_all xs
    rw [HXE.out] at e
    rw [e] at h
    exact h
   have hrw := HR3.out.trans HR.out
   have hz4a := hrw.size
   have HRW := hid hrw
   have HKD := hid (kit_DerivedS g ⟨0, nm, renL xs⟩ (.slice va L vc) 1 wr HD.out (HT.out.roll hrw (by omega)) (HRT.out.tab (by omega) (by omega)) (hco.read.more fun b hb => ⟨hb.2, by have := hb.1; omega⟩))
   simp only at HKD
   have x0 := HTB.out.cell 0 rfl
   have x1 := HTB.out.cell 1 rfl
   have x2 := HTB.out.cell 2 rfl
   clear hrw hco HCO HCO0 HR HD HTB3 HD3 HR3
   go_wp2_with fail
   clear x0 x1 x2
   with_reducible refine HKD.out.mono ?_
   rintro e w4 ⟨ys, v4, rfl, htw, hder, hco, hd4, hr4⟩
   have hz4 := hr4.size
   have hrd := hco.read
   obtain ⟨a4, c4, rfl⟩ : ∃ a c, v4 = .slice a ys.length c := by
    obtain ⟨cv, ⟨a, c, e, -⟩, -⟩ := hrd
    exact ⟨a, c, e⟩
   have hrw4 := HRW.out.trans (hr4.mono (B' := w.heap.size) (by omega))
   obtain ⟨M, hM⟩ : ∃ M, M = ys.length := ⟨_, rfl⟩
   rw [← hM] at hrd
   rw [← hM]
   clear hM
   have HR5 := hid (hrw4.alloc (by omega) (.cells #[.int .i64 1, .string nm, .slice a4 M c4] 51))
   have HD5 := hid (hd4.alloc (.cells #[.int .i64 1, .string nm, .slice a4 M c4] 51))
   have HTA5 : Hid (TaSt (w4.alloc (.cells #[.int .i64 1, .string nm, .slice a4 M c4] 51)) wr.heap.size 51 (.slice (some ⟨w4.heap.size, 0, none⟩) 1 1) [⟨1, nm, ys⟩]) := hid (ta_one (t := ⟨1, nm, ys⟩) (u := .slice a4 M c4) (S := fun b => wr.heap.size ≤ b ∧ b < w4.heap.size) (BoxN.new w4 _ _) (hrd.keep fun p hp => World.cell?_alloc_lt _ _ _ hp.2) (fun k hk => ⟨hk.1, by have := hk.2; simp; omega, by have := hk.2; omega⟩) hz4)
   have HQ5 : Hid (FamQ ⟨0, nm, xs⟩ ⟨1, nm, ys⟩) := hid ⟨htw, hder⟩
   have hz5 : (w4.alloc (.cells #[.int .i64 1, .string nm, .slice a4 M c4] 51)).heap.size = w4.heap.size + 1 := by simp
   clear hrd hco hd4 hr4 hrw4 htw hder HKD HTB
   go_wp2_with fail
   generalize w4.alloc (.cells #[.int .i64 1, .string nm, .slice a4 M c4] 51) = W5 at *
   have hbg : g < wr.heap.size := by omega
   have hbase : w.heap.size ≤ wr.heap.size := hz4a
   generalize wr.heap.size = base at *
   obtain ⟨i0, hi, hy0, hy1, hy2⟩ := info_parts info_taF
   go_loopg [6, 5] 3 (fun N i s5 wq => ∃ (ts : List Ta) (m : Nat) (a c' : Nat), i = .int .i64 ((m + 1 : Nat) : Int) ∧ m + N = 4 ∧ 1 ≤ m ∧ ts.length = m ∧ s5 = .slice (some ⟨a, 0, none⟩) m c' ∧ Hid (∀ k, k < m → (ts.getD k Ta.z).id = (k : Int) + 1) ∧ Hid (∀ t ∈ ts, FamQ ⟨0, nm, xs⟩ t) ∧ Hid (TaSt wq base 51 s5 ts) ∧ Hid (KDice wq g) ∧ Hid (Roll w.heap.size g w wq))
   case atStart => exact ⟨[⟨1, nm, ys⟩], 1, w4.heap.size, 1, rfl, rfl, Nat.le_refl _, rfl, rfl, hid (fun k hk => by (obtain rfl : k = 0 := (by omega)); rfl), hid (fun t ht => by rw [List.mem_singleton.1 ht]; exact HQ5.out), HTA5, HD5, HR5⟩
   case round =>
    obtain ⟨ts, m, a, c', rfl, hm, hm1, hlen, rfl, HID, HFQ, HTA, HD, HR⟩ := hrel
    have hwr := HR.out.size
    obtain ⟨wo, rfl⟩ : ∃ wo, wo = wr := ⟨wr, rfl⟩
    go_wp2_with fail
    with_reducible refine (kit_Next g 2 wo HD.out (by omega) (by omega)).mono ?_
    rintro e w6 ⟨x, rfl, hx, hd6, hr6, -⟩
    have hz6 := hr6.size
    have HD6 := hid hd6
    have HR6 := hid (HR.out.trans (hr6.mono hwr))
    have HTA6 := hid (HTA.out.roll hr6 (Nat.le_refl _) hbg)
    have hx2 : x < 2 := by omega
    clear hd6 hr6 HTA HD HR
    by_cases hc : m + 1 < 4 + x
    ·have hci : ((m + 1 : Nat) : Int) < 4 + (x : Int) := by omega
     go_wp2_with fail
     with_reducible refine (kit_Next g (m : Int) w6 HD6.out (by omega) (by omega)).mono ?_
     rintro e w7 ⟨j, rfl, hj, hd7, hr7, -⟩
     have hjm : j < m := by omega
     have hjmi : (j : Int) < (m : Int) := by omega
     have hz7 := hr7.size
     have HD7 := hid hd7
     have HR7 := hid (HR6.out.trans (hr7.mono (by omega)))
     have HTA7 := hid (HTA6.out.roll hr7 (Nat.le_refl _) hbg)
     clear hd7 hr7 HTA6 HD6 HR6
     obtain ⟨tv, hN⟩ := HTA7.out
     have hrow := hN.row
     rw [hlen] at hrow
     have hal := hrow.lt a rfl
     have kk : ∀ mm, mm < 3 → w7.cell? ⟨a, j * 3 + mm, none⟩ = some (taF ts tv j mm) := fun mm hmm => by
      have h1 := hrow.cellAt (j * 3 + mm) (by omega)
      exact h1.trans (flatK_at (k := 3) (f := taF ts tv) hjm hmm)
     have k0 : w7.cell? ⟨a, j * 3, none⟩ = some (.int .i64 (ts.getD j Ta.z).id) := kk 0 (by omega)
     have k1 : w7.cell? ⟨a, j * 3 + 1, none⟩ = some (.string (ts.getD j Ta.z).name) := kk 1 (by omega)
     have k2 : w7.cell? ⟨a, j * 3 + 2, none⟩ = some (tv j) := kk 2 (by omega)
     have hq7 := HFQ.out _ (getD_mem (l := ts) (i := j) (by rw [hlen]; exact hjm) Ta.z)
     have hi7 := HID.out j hjm
     have HKD := hid (kit_DerivedS g (ts.getD j Ta.z) (tv j) ((m : Int) + 1) w7 HD7.out (HT.out.roll HR7.out (by omega)) (hq7.1.tab (id := (ts.getD j Ta.z).id) (by omega) (by omega)) ((hN.kids j (by rw [hlen]; exact hjm)).more fun b hb => ⟨hb.2.1, by have := hb.1; omega⟩))
     have HQ7 := hid hq7.2
     clear hN hrow kk hq7 hi7
     generalize ts.getD j Ta.z = tj at *
     obtain ⟨ti, tn, tc⟩ := tj
     simp only at k0 k1 k2 HKD HQ7
     go_wp2_with fail
     clear k0 k1 k2
     with_reducible refine HKD.out.mono ?_
     rintro e w8 ⟨ys8, v8, rfl, htw8, hder8, hco8, hd8, hr8⟩
     have hz8 := hr8.size
     have hrd8 := hco8.read
     obtain ⟨a8, c8, rfl⟩ : ∃ a c, v8 = .slice a ys8.length c := by
      obtain ⟨cv, ⟨a, c, e, -⟩, -⟩ := hrd8
      exact ⟨a, c, e⟩
     obtain ⟨l8, hl8⟩ : ∃ l8, l8 = ys8.length := ⟨_, rfl⟩
     rw [← hl8] at hrd8
     rw [← hl8]
     clear hl8
     have HQ8 : Hid (FamQ ⟨0, nm, xs⟩ ⟨(m : Int) + 1, tn, ys8⟩) := hid ⟨htw8, HQ7.out.trans hder8⟩
     have hta9 := (HTA7.out.roll hr8 (Nat.le_refl _) hbg).alloc (.cells #[.int .i64 ((m : Int) + 1), .string tn, .slice a8 l8 c8] 51)
     obtain ⟨L0, hL0⟩ := hta9.owns
     rw [hlen] at hL0
     have HTA9 := hid hta9
     have HL9 := hid hL0
     have HN9 := hid (BoxN.new w8 #[.int .i64 ((m : Int) + 1), .string tn, .slice a8 l8 c8] 51)
     have hz7w := HR7.out.size
     have HR9 := hid ((HR7.out.trans (hr8.mono (by omega))).alloc (by omega) (.cells #[.int .i64 ((m : Int) + 1), .string tn, .slice a8 l8 c8] 51))
     have HD9 := hid (hd8.alloc (.cells #[.int .i64 ((m : Int) + 1), .string tn, .slice a8 l8 c8] 51))
     have HNEW : Hid (RdCo (w8.alloc (.cells #[.int .i64 ((m : Int) + 1), .string tn, .slice a8 l8 c8] 51)) (Own (w8.alloc (.cells #[.int .i64 ((m : Int) + 1), .string tn, .slice a8 l8 c8] 51)) base (.slice (some ⟨a, 0, none⟩) m c')) (.slice a8 l8 c8) ys8) := hid ((hrd8.keep fun p hp => World.cell?_alloc_lt _ _ _ hp.2).more fun b hb => ⟨by have := hb.1; omega, by have := hb.2; simp; omega, fun e => by have h1 := hb.1; have h2 := Option.some.inj (show some a = some b from e); omega⟩)
     have hz9 : (w8.alloc (.cells #[.int .i64 ((m : Int) + 1), .string tn, .slice a8 l8 c8] 51)).heap.size = w8.heap.size + 1 := by simp
     clear hta9 hL0 hrd8 hco8 hd8 hr8 htw8 hder8 HKD HTA7
     go_wp2_with (at_builtin; refine wpList_append_form _ rfl _ _ 25 25 rfl base 51 51 i0 (.agg #[.int .i64 0, .string ⟨#[]⟩, .slice none 0 0]) 3 48 Tryz.underlying25 Tryz.underlying25 hi hy0 hy1 hy2 rfl (by decide) (.slice (some ⟨a, 0, none⟩) m c') m L0 rfl HL9.out (some ⟨_, 0, none⟩) 1 1 [.int .i64 ((m : Int) + 1), .string tn, .slice a8 l8 c8] rfl rfl (fun _ => ⟨_, rfl, World.news_of_block HN9.out⟩) (by intro u hu; simp at hu; rcases hu with rfl | rfl | rfl <;> rfl) (by omega) (by unfold maxLen; omega) (by omega) (by simp; omega) ?_; intro p10 cap10 w10 hown10 hg10 hat10 hlt10; have HG10 := hid hg10; have HOWN10 := hid hown10; have HAT10 := hid hat10; clear hown10 hg10 hat10)
     go_wp2
     have hg10 := HG10.out
     have HTA10 := hid (HTA9.out.push (L := L0) (by rw [hlen]; exact HL9.out) (x := ⟨(m : Int) + 1, tn, ys8⟩) (u := .slice a8 l8 c8) (n := m + 1) (by rw [hlen]) HOWN10.out HG10.out HAT10.out HNEW.out)
     have hrow9 : ∀ k, (Value.slice (some ⟨a, 0, none⟩) m c').ownBlock = some k → base ≤ k := fun k hk => (HL9.out.lt k hk).1
     have HR10 := hid (HR9.out.grown hg10 (by omega) (fun k hk => by have := hrow9 k hk; omega))
     have HD10 : Hid (KDice w10 g) := hid (HD9.out.keep fun k hk => hg10.block k (by omega) (by intro e; have := hrow9 k e.symm; omega))
     have HID2 : Hid (∀ k, k < m + 1 → ((ts ++ [(⟨(m : Int) + 1, tn, ys8⟩ : Ta)]).getD k Ta.z).id = (k : Int) + 1) := hid (fun k hk => by
      by_cases h1 : k < m
      ·have h2 := HID.out k h1
       have h3 : k < ts.length := by omega
       simpa [List.getD, List.getElem?_append_left h3] using h2
      ·obtain rfl : k = m := by omega
       subst hlen
       simp [List.getD])
     go_roundg (gk - 1)
     case rel => exact ⟨ts ++ [⟨(m : Int) + 1, tn, ys8⟩], m + 1, p10, cap10, by go_num, by omega, by omega, by simp [hlen], rfl, HID2, hid (fun t ht => by
      rcases List.mem_append.1 ht with h | h
      ·exact HFQ.out t h
      ·rw [List.mem_singleton.1 h]; exact HQ8.out), HTA10, HD10, HR10⟩
     case measure => omega
    ·have hci : ¬ ((m + 1 : Nat) : Int) < 4 + (x : Int) := by omega
     have hm3 : 3 ≤ m := by omega
     have hm4 : m ≤ 4 := by omega
     go_wp2_with fail
     with_reducible refine (kit_Next g 2 w6 HD6.out (by omega) (by omega)).mono ?_
     rintro e w7 ⟨y, rfl, hy, hd7, hr7, -⟩
     have hz7 := hr7.size
     have HD7 := hid hd7
     have HR7 := hid (HR6.out.trans (hr7.mono (by omega)))
     have HTA7 := hid (HTA6.out.roll hr7 (Nat.le_refl _) hbg)
     clear hd7 hr7 HTA6 HD6 HR6
     by_cases hy0 : y = 0
     ·subst hy0
      go_wp2_with fail
      go_loopg [7, 8] (m - 1) (fun N s7 s8 wq => ∃ (us : List Ta) (q : Nat), s7 = .int .i64 (q : Int) ∧ s8 = .int .i64 (N : Int) ∧ q + N + 1 = m ∧ us.length = m ∧ Hid (∀ t ∈ us, FamQ ⟨0, nm, xs⟩ t) ∧ Hid (TaSt wq base 51 (.slice (some ⟨a, 0, none⟩) m c') us) ∧ Hid (KDice wq g) ∧ Hid (Roll w.heap.size g w wq))
      case atStart => exact ⟨ts, 0, rfl, by go_num, by omega, hlen, HFQ, HTA7, HD7, HR7⟩
      case round =>
       obtain ⟨us, q, rfl, rfl, hqm, hul, HFU, HTA, HD, HR⟩ := hrel
       obtain ⟨tv, hN⟩ := HTA.out
       have hrow := hN.row
       rw [hul] at hrow
       have hal := hrow.lt a rfl
       by_cases hc2 : q < gk
       ·have hc2i : (q : Int) < (gk : Int) := by omega
        have kk : ∀ i, i < m → ∀ mm, mm < 3 → wr.cell? ⟨a, i * 3 + mm, none⟩ = some (taF us tv i mm) := fun i hi mm hmm => by
         have h1 := hrow.cellAt (i * 3 + mm) (by omega)
         exact h1.trans (flatK_at (k := 3) (f := taF us tv) hi hmm)
        have k0 : wr.cell? ⟨a, q * 3, none⟩ = some (.int .i64 (us.getD q Ta.z).id) := kk q (by omega) 0 (by omega)
        have k1 : wr.cell? ⟨a, q * 3 + 1, none⟩ = some (.string (us.getD q Ta.z).name) := kk q (by omega) 1 (by omega)
        have k2 : wr.cell? ⟨a, q * 3 + 2, none⟩ = some (tv q) := kk q (by omega) 2 (by omega)
        have l0 : wr.cell? ⟨a, gk * 3, none⟩ = some (.int .i64 (us.getD gk Ta.z).id) := kk gk (by omega) 0 (by omega)
        have l1 : wr.cell? ⟨a, gk * 3 + 1, none⟩ = some (.string (us.getD gk Ta.z).name) := kk gk (by omega) 1 (by omega)
        have l2 : wr.cell? ⟨a, gk * 3 + 2, none⟩ = some (tv gk) := kk gk (by omega) 2 (by omega)
        have f0 := hrow.frozenAt (q * 3)
        have f1 := hrow.frozenAt (q * 3 + 1)
        have f2 := hrow.frozenAt (q * 3 + 2)
        have g0 := hrow.frozenAt (gk * 3)
        have g1 := hrow.frozenAt (gk * 3 + 1)
        have g2 := hrow.frozenAt (gk * 3 + 2)
        have hsw := ta_swap hN hul (show q < m by omega) (show gk < m by omega) (by omega)
        obtain ⟨_, ⟨p1, c1, e1, -⟩, -⟩ := hN.kids q (by rw [hul]; omega)
        obtain ⟨_, ⟨p2, c2, e2, -⟩, -⟩ := hN.kids gk (by rw [hul]; omega)
        rw [e1] at k2 hsw
        rw [e2] at l2 hsw
        have HSW := hid hsw
        have HMEM := hid (fun t ht => HFU.out t (swL_mem (i := q) (j := gk) (by omega) (by omega) t ht))
        have HSL : Hid ((swL us q gk).length = m) := hid (by rw [swL_len]; exact hul)
        have hga : g < a := by omega
        have hwa : w.heap.size ≤ a := by omega
        clear hN hrow kk hsw e1 e2
        generalize (us.getD q Ta.z).id = i1 at *
        generalize (us.getD q Ta.z).name = n1 at *
        generalize (us.getD q Ta.z).cols.length = z1 at *
        generalize (us.getD gk Ta.z).id = i2 at *
        generalize (us.getD gk Ta.z).name = n2 at *
        generalize (us.getD gk Ta.z).cols.length = z2 at *
        go_upto_region 16 with fail
        go_region
        have HDS := hid (((((((HD.out.store (p := ⟨a, q * 3, none⟩) hga (.int .i64 i2)).store (p := ⟨a, q * 3 + 1, none⟩) hga (.string n2)).store (p := ⟨a, q * 3 + 2, none⟩) hga (.slice p2 z2 c2)).store (p := ⟨a, gk * 3, none⟩) hga (.int .i64 i1)).store (p := ⟨a, gk * 3 + 1, none⟩) hga (.string n1)).store (p := ⟨a, gk * 3 + 2, none⟩) hga (.slice p1 z1 c1)).drew)
        have HRS := hid ((roll_storeF (roll_storeF (roll_storeF (roll_storeF (roll_storeF (roll_storeF HR.out (p := ⟨a, q * 3, none⟩) hwa (.int .i64 i2)) (p := ⟨a, q * 3 + 1, none⟩) hwa (.string n2)) (p := ⟨a, q * 3 + 2, none⟩) hwa (.slice p2 z2 c2)) (p := ⟨a, gk * 3, none⟩) hwa (.int .i64 i1)) (p := ⟨a, gk * 3 + 1, none⟩) hwa (.string n1)) (p := ⟨a, gk * 3 + 2, none⟩) hwa (.slice p1 z1 c1)).drewN 1)
        have HTS := hid (HSW.out.drewN 1)
        clear k0 k1 k2 l0 l1 l2 f0 f1 f2 g0 g1 g2
        obtain ⟨gj, rfl⟩ : ∃ gj, gk = gj + 1 := ⟨gk - 1, by omega⟩
        go_wp2_with fail
        go_roundg gj
        case rel => exact ⟨swL us q (gj + 1), q + 1, by go_num, by go_num, by omega, HSL.out, HMEM, HTS, HDS, HRS⟩
        case measure => omega
       ·have hc2i : ¬ (q : Int) < (gk : Int) := by omega
        have hc2d : decide ((q : Int) < (gk : Int)) = false := decide_eq_false hc2i
        clear hN hrow
        obtain ⟨wo, rfl⟩ : ∃ wo, wo = wr := ⟨wr, rfl⟩
        go_wp2_with fail
        go_loopg [85] m (fun N i wq => ∃ (us : List Ta) (q : Nat), i = .int .i64 (q : Int) ∧ q + N = m ∧ us.length = m ∧ Hid (∀ k, k < q → (us.getD k Ta.z).id = (k : Int) + 1) ∧ Hid (∀ t ∈ us, FamQ ⟨0, nm, xs⟩ t) ∧ Hid (TaSt wq base 51 (.slice (some ⟨a, 0, none⟩) m c') us) ∧ Hid (KDice wq g) ∧ Hid (Roll w.heap.size g w wq))
        case atStart => exact ⟨us, 0, rfl, by omega, hul, hid (fun k hk => absurd hk (by omega)), HFU, HTA, HD, HR⟩
        case round =>
         obtain ⟨us, q, rfl, hqm2, hul2, HIDu, HFU2, HTA2, HD2, HR2⟩ := hrel
         by_cases hp3 : 0 < gk
         ·have hqm3 : q < m := by omega
          have hqi : (q : Int) < (m : Int) := by omega
          obtain ⟨tv, hN⟩ := HTA2.out
          have hrow := hN.row
          rw [hul2] at hrow
          have hal := hrow.lt a rfl
          have k0 : wr.cell? ⟨a, q * 3, none⟩ = some (.int .i64 (us.getD q Ta.z).id) := (hrow.cellAt (q * 3 + 0) (by omega)).trans (flatK_at (k := 3) (f := taF us tv) hqm3 (by omega))
          have f0 := hrow.frozenAt (q * 3)
          have hga : g < a := by omega
          have hwa : w.heap.size ≤ a := by omega
          have HTS := hid (ta_id HTA2.out hul2 hqm3 ((q : Int) + 1))
          have HDS := hid (HD2.out.store (p := ⟨a, q * 3, none⟩) hga (.int .i64 ((q : Int) + 1)))
          have HRS := hid (roll_storeF HR2.out (p := ⟨a, q * 3, none⟩) hwa (.int .i64 ((q : Int) + 1)))
          have HIDn : Hid (∀ k, k < q + 1 → ((idL us q ((q : Int) + 1)).getD k Ta.z).id = (k : Int) + 1) := hid (fun k hk => by
           rw [idL_at (by omega)]
           by_cases h1 : k = q
           ·subst h1; simp
           ·rw [if_neg h1]; exact HIDu.out k (by omega))
          have HFN : Hid (∀ t ∈ idL us q ((q : Int) + 1), FamQ ⟨0, nm, xs⟩ t) := hid (fun t ht => by
           unfold idL at ht
           rcases List.mem_or_eq_of_mem_set ht with h | h
           ·exact HFU2.out t h
           ·rw [h]
            have h2 : FamQ ⟨0, nm, xs⟩ (us.getD q Ta.z) := HFU2.out _ (getD_mem (l := us) (i := q) (by rw [hul2]; exact hqm3) Ta.z)
            exact h2)
          have HLN : Hid ((idL us q ((q : Int) + 1)).length = m) := hid (by rw [idL_len]; exact hul2)
          clear hN hrow
          generalize (us.getD q Ta.z).id = iq at *
          go_wp2
          go_roundg (gk - 1)
          case rel => exact ⟨idL us q ((q : Int) + 1), q + 1, by go_num, by omega, HLN.out, HIDn, HFN, HTS, HDS, HRS⟩
          case measure => omega
         ·obtain rfl : gk = 0 := by omega
          obtain rfl : m = q := by omega
          go_wp2
          go_ret
          refine ⟨⟨0, nm, xs⟩, us, _, rfl, HOKK.out, by omega, by omega, fun i hi => HIDu.out i (by omega), HFU2.out, HTA2.out.read.more fun b hb => ⟨by have := hb.1; omega, hb.2⟩, HD2.out, HR2.out⟩
     ·have hy1 : ((y : Int) == 0) = false := by simp; omega
      have hy2' : ¬ (y : Int) = 0 := by omega
      go_wp2
      go_ret
      refine ⟨⟨0, nm, xs⟩, ts, _, rfl, HOKK.out, by omega, by omega, fun i hi => HID.out i (by omega), HFQ.out, HTA7.out.read.more fun b hb => ⟨by have := hb.1; omega, hb.2⟩, HD7.out, HR7.out⟩
end Go.Proofs.YtaajpliifdlokaaGreatDoor

namespace Go.Proofs.YtaajpliifdlokaaGreatDoor
open Go.RowKit
theorem fam_few {k t : Ta} (hk : KTabOk k) (h : FamQ k t) : Few t.cols := by
  obtain ⟨n, hn, hc⟩ := ren_cols hk
  exact h.2 Few ⟨n, by omega, hc⟩ fun ys o hy hcan _ => few_do hy hcan
theorem fam_ids {ts : List Ta} (h : ∀ i, i < ts.length → (ts.getD i Ta.z).id = (i : Int) + 1) : ts.Pairwise fun a b => a.id < b.id := by
  rw [List.pairwise_iff_getElem]
  intro i j hi hj hij
  have h1 := h i hi
  have h2 := h j hj
  simp [List.getD, hi, hj] at h1 h2
  omega
theorem fam_list {k : Ta} {ts : List Ta} (h4 : ts.length ≤ 4) (hi : ∀ i, i < ts.length → (ts.getD i Ta.z).id = (i : Int) + 1) (hq : ∀ t ∈ ts, FamQ k t) : ListV ts := by
  refine ⟨by omega, fun t ht => ?_, fam_ids hi⟩
  obtain ⟨i, hil, rfl⟩ := List.getElem_of_mem ht
  have h1 := hi i hil
  simp [List.getD, hil] at h1
  exact (hq _ ht).1.tab (id := ts[i].id) (by omega) (by omega)
end Go.Proofs.YtaajpliifdlokaaGreatDoor

namespace Go.Proofs.YtaajpliifdlokaaGreatDoor
open Go.RowKit
def FindP (w : World) (B : Nat) (t : Ta) (e : Ending) (w' : World) : Prop :=
  ∃ u, e = .returned (.tuple #[.agg #[.int .i64 t.id, .string t.name, u], .bool true]) ∧ RdCo w (· < B) u t.cols ∧ Below w.heap.size w w'
set_option maxRecDepth 100000 in
set_option maxHeartbeats 1000000 in
theorem ref_Find (v : Value) (ts : List Ta) (B i : Nat) (w : World) (hi : i < ts.length) (hu : ∀ j, j < i → (ts.getD j Ta.z).id ≠ (ts.getD i Ta.z).id) (hl : ts.length ≤ 1048576) (hv : RdTa w (· < B) v ts) (hB : B ≤ w.heap.size) :
  Calls Tryz.prog 32 #[v, .int .i64 (ts.getD i Ta.z).id] w (FindP w B (ts.getD i Ta.z)) := by
 obtain ⟨tv, htv, hco⟩ := hv
 obtain ⟨a, k, rfl, hk, hm, hrd⟩ := htv
 obtain ⟨b, o, rfl, hb, hcell⟩ := hrd (by omega)
 have hbw : b < w.heap.size := by omega
 have HRD := hid hcell
 have HCO := hid (hco i hi)
 have HSL : Hid (∀ q, q < ts.length → ∃ ca m ck, tv q = .slice ca m ck) := hid (fun q hq => by
  obtain ⟨cv, ⟨ca, ck, e, -⟩, -⟩ := hco q hq
  exact ⟨ca, _, ck, e⟩)
 have HU := hid hu
 clear hcell hco hu hrd
 generalize htt : ts.getD i Ta.z = t at *
 have HTT := hid htt
 clear htt
 generalize hxl : ts.length = L at *
 clear hxl
 unfold maxLen at hm
 obtain ⟨ca, ck, hcq⟩ : ∃ ca ck, tv i = .slice ca t.cols.length ck := by
  obtain ⟨cv, ⟨ca, ck, e, -⟩, -⟩ := HCO.out
  exact ⟨ca, ck, e⟩
 have HCQ := hid hcq
 clear hcq
 go_enter Tryz.func32, Tryz.ntmps32
 generalize hLA : Code.loop _ = LA
 go_wp2_with fail
 have HX0 := hid (BoxN.new w #[.int .i64 0, .string ⟨#[]⟩, .slice none 0 0] 51)
 have HB0 := hid ((Below.refl w.heap.size w).alloc (Nat.le_refl _) (.cells #[.int .i64 0, .string ⟨#[]⟩, .slice none 0 0] 51))
 have hz0 : (w.alloc (.cells #[.int .i64 0, .string ⟨#[]⟩, .slice none 0 0] 51)).heap.size = w.heap.size + 1 := by simp
 generalize w.alloc (.cells #[.int .i64 0, .string ⟨#[]⟩, .slice none 0 0] 51) = W0 at *
 subst hLA
 go_loopg [10] (i + 1) (fun N c wr => ∃ q : Nat, q + N = i + 1 ∧ q ≤ i ∧ c = .int .i64 (q : Int) ∧ Hid (Below W0.heap.size W0 wr))
 case atStart => exact ⟨0, by omega, by omega, rfl, hid (Below.refl _ _)⟩
 case round =>
  obtain ⟨q, hq, hqi, rfl, HB⟩ := hrel
  have hwz := HB.out.size
  have HBW := hid (HB0.out.trans (HB.out.mono (by omega)))
  have k0 : wr.cell? ⟨b, o + q * 3, none⟩ = some (.int .i64 (ts.getD q Ta.z).id) := (HBW.out.cell (p := ⟨b, o + q * 3, none⟩) hbw).trans (HRD.out q (by omega) 0 (by omega))
  have k1 : wr.cell? ⟨b, o + q * 3 + 1, none⟩ = some (.string (ts.getD q Ta.z).name) := (HBW.out.cell (p := ⟨b, o + q * 3 + 1, none⟩) hbw).trans (HRD.out q (by omega) 1 (by omega))
  have k2 : wr.cell? ⟨b, o + q * 3 + 2, none⟩ = some (tv q) := (HBW.out.cell (p := ⟨b, o + q * 3 + 2, none⟩) hbw).trans (HRD.out q (by omega) 2 (by omega))
  by_cases hqe : q = i
  ·subst hqe
   rw [HTT.out] at k0 k1
   rw [HCQ.out] at k2
   have hcr := HCO.out
   rw [HCQ.out] at hcr
   have HCR := hid hcr
   have hb0 := HX0.out.below HB.out (by omega)
   have c0 := hb0.cell 0 rfl
   have c1 := hb0.cell 1 rfl
   have c2 := hb0.cell 2 rfl
   have f0 := hb0.frozen 0
   have f1 := hb0.frozen 1
   have f2 := hb0.frozen 2
   have hxz := hb0.lt
   clear hcr
   obtain ⟨id, nm, xs⟩ := t
   simp only at k0 k1 k2
   generalize xs.length = m at *
   have hbF := (((hb0.set 0 (.int .i64 id)).set 1 (.string nm)).set 2 (.slice ca m ck)).alloc (.cells #[.int .i64 id, .string nm, .slice ca m ck] 51)
   have d0 := hbF.cell 0 rfl
   have d1 := hbF.cell 1 rfl
   have d2 := hbF.cell 2 rfl
   have D0 := hid d0
   have D1 := hid d1
   have D2 := hid d2
   clear hb0 hbF d0 d1 d2
   go_wp2
   have d0 := D0.out
   have d1 := D1.out
   have d2 := D2.out
   refine bodyPost_ret (v := .tuple #[.agg #[.int .i64 id, .string nm, .slice ca m ck], .bool true]) (by simp [results, Tryz.results32, go_sem, d0, d1, d2]) rfl ⟨_, rfl, HCR.out, ?_⟩
   have := HBW.out
   repeat' (first | (with_reducible exact Below.refl _ _) | (with_reducible assumption) | (with_reducible refine below_drewN ?_) | (with_reducible refine Below.alloc ?_ ?_ _) | (with_reducible refine Below.drew ?_) | (with_reducible refine Below.setCell ?_ ?_ _) | (with_reducible refine Below.trans ?_ (Below.mono (by with_reducible assumption) ?_)) | go_size)
  ·have hne := HU.out q (by omega)
   obtain ⟨ca', m', ck', hcq'⟩ := HSL.out q (by omega)
   rw [hcq'] at k2
   have hne2 : ((ts.getD q Ta.z).id == t.id) = false := by simpa using hne
   generalize ts.getD q Ta.z = t' at *
   obtain ⟨id', nm', xs'⟩ := t'
   simp only at k0 k1 hne2
   clear hne
   go_wp2
   go_roundg (gk - 1)
   case rel => exact ⟨q + 1, by omega, by omega, by go_num, hid (by have := HB.out; repeat' (first | (with_reducible exact Below.refl _ _) | (with_reducible assumption) | (with_reducible refine below_drewN ?_) | (with_reducible refine Below.alloc ?_ ?_ _) | (with_reducible refine Below.drew ?_) | (with_reducible refine Below.setCell ?_ ?_ _) | (with_reducible refine Below.trans ?_ (Below.mono (by with_reducible assumption) ?_)) | go_size))⟩
   case measure => omega
end Go.Proofs.YtaajpliifdlokaaGreatDoor

namespace Go.Proofs.YtaajpliifdlokaaGreatDoor
open Go.RowKit
def RdI (w : World) (B : Nat) (a : Option Addr) (n c : Nat) : Prop :=
  n ≤ c ∧ c ≤ maxLen ∧ (0 < n → ∃ b o, a = some ⟨b, o, none⟩ ∧ b < B ∧ ∀ i, i < n → ∃ z : Int, w.cell? ⟨b, o + i, none⟩ = some (.int .i64 z))
theorem kit_Light (a : Option Addr) (n c : Nat) (w : World) (hn : n ≤ maxLen) : Calls Tryz.prog 8 #[.slice a n c] w (fun e w' => e = .returned (.bool (decide (n ≤ 500))) ∧ w = w') := by
  unfold maxLen at hn
  by_cases h : n ≤ 500
  · have h1 : decide ((n : Int) ≤ 500) = true := decide_eq_true (by omega)
    have h2 : decide (n ≤ 500) = true := decide_eq_true h
    go_enter Tryz.func8, Tryz.ntmps8
    go_wp2_with fail
    go_ret
    exact ⟨ret_bool (by simp [h]), rfl⟩
  · have h1 : decide ((n : Int) ≤ 500) = false := decide_eq_false (by omega)
    have h2 : decide (n ≤ 500) = false := decide_eq_false h
    go_enter Tryz.func8, Tryz.ntmps8
    go_wp2_with fail
    go_ret
    exact ⟨ret_bool (by simp [h]), rfl⟩
def KRoll (w : World) (e : Ending) (w' : World) : Prop := e = .returned (.pointer (some ⟨w.heap.size, 0, none⟩)) ∧ KDice w' w.heap.size ∧ Below w.heap.size w w'
theorem kroll {w : World} {a : Option Addr} {n c : Nat} (h : RdI w w.heap.size a n c) (hn : n ≤ 500) (hp : Pow w) : KRoll w (.returned (.pointer (some ⟨w.heap.size, 0, none⟩))) (w.alloc (.cells #[.slice a n c, .int .i64 0] 86)) := by
  have hb : Below w.heap.size w (w.alloc (.cells #[.slice a n c, .int .i64 0] 86)) := (Below.refl _ _).alloc (Nat.le_refl _) _
  refine ⟨rfl, ⟨⟨hp.lt, hp.below hb (Nat.le_refl _)⟩, a, n, c, 0, heap_alloc_new _ _, Nat.zero_le _, hn, fun h0 => ?_⟩, hb⟩
  obtain ⟨b, o, e, hlt, hc⟩ := h.2.2 h0
  refine ⟨b, o, e, hlt, fun i hi => ?_⟩
  obtain ⟨z, hz⟩ := hc i hi
  exact ⟨z, (World.cell?_alloc_lt _ _ ⟨b, o + i, none⟩ hlt).trans hz⟩
theorem kit_Roll (a : Option Addr) (n c : Nat) (w : World) (h : RdI w w.heap.size a n c) (hn : n ≤ 500) (hp : Pow w) : Calls Tryz.prog 11 #[.slice a n c] w (KRoll w) := by
  have H := hid (kroll h hn hp)
  clear h hp
  go_enter Tryz.func11, Tryz.ntmps11
  go_wp2_with fail
  go_ret
  exact H.out
end Go.Proofs.YtaajpliifdlokaaGreatDoor
