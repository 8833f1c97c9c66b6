/- The sanity check of chapter 19. Plain of OverlapKnown: reading more never makes it less certain. law19's query; plain of OverlapFirst. Contract of law19.certificate. Plain: division bit by bit, on digits to the base 2^32. No program in sight. Contracts of the reference's bit, div, lowest, Make, Of. Contracts of the reference's lowest, Make, Of, at a denominator greater than 0. The walk of ContainmentFirst. The walk of OverlapFirst. The walk of OverlapKnown. -/
import Derived.Test.YtikiimlmoalbcaaGreatDoorOOtbq
import Derived.Test.YtikiimlmoalbcaaGreatDoorOOtbp
import Derived.Test.YtikiimlmoalbcaaGreatDoorOOtbn
import Derived.Test.YtikiimlmoalbcaaGreatDoorOOtbj
import Derived.Deep.Cut
import Derived.Test.YtikiimlmoalbcaaGreatDoorOOtbk
import Derived.Test.YtikiimlmoalbcaaGreatDoorOOtar
import Derived.Test.YtikiimlmoalbcaaGreatDoorOOtbo
import Derived.Test.YtikiimlmoalbcaaGreatDoorOOtac
import Derived.Deep.RegionHeld3
import Derived.Deep.CutRange
set_option linter.unusedVariables false
set_option linter.unusedSimpArgs false
namespace Go.Proofs.YtikiimlmoalbcaaGreatDoor
open Go.RowKit
theorem inS_of_rds {w : World} {B : Nat} {v : Value} {xs : List ByteArray} (h : RdS w B v xs) : InS w (· < B) v xs := by
 obtain ⟨a, c, e, h1, h2, h3⟩ := h
 refine ⟨a, c, e, h1, h2, fun hp => ?_⟩
 obtain ⟨b, o, e2, hb, hc⟩ := h3 hp
 refine ⟨b, o, e2, hb, fun i hi j hj => ?_⟩
 obtain rfl : j = 0 := by omega
 have h4 := hc i hi
 simp [h4]
theorem lit_own {w : World} {xs : List Value} {n : Nat} {t : TypeId} (hn : xs.length = n) (hp : n ≤ 16) : (w.alloc (.cells xs.toArray t)).ownsRow w.heap.size t 1 (.slice (some ⟨w.heap.size, 0, none⟩) n n) n xs := by
 refine ⟨by rw [Nat.mul_one]; exact hn, .inr ⟨w.heap.size, n, xs.toArray, rfl, Nat.le_refl _, heap_alloc_new w _, Nat.le_refl _, by unfold maxLen; omega, by simp [hn], ?_⟩⟩
 rw [Nat.mul_one, ← hn]
 simp
theorem lit_q {w : World} : InS (w.alloc (.cells #[.string sA, .string sB, .string sC] 9)) (· < (w.alloc (.cells #[.string sA, .string sB, .string sC] 9)).heap.size) (.slice (some ⟨w.heap.size, 0, none⟩) 3 3) q19 :=
 inS_of_rds (rdS_of_own (xs := q19) (lit_own (w := w) (xs := [.string sA, .string sB, .string sC]) (n := 3) (t := 9) rfl (by omega)))
theorem lit_c {w : World} : InS (w.alloc (.cells #[.string sC] 9)) (· < (w.alloc (.cells #[.string sC] 9)).heap.size) (.slice (some ⟨w.heap.size, 0, none⟩) 1 1) [sC] :=
 inS_of_rds (rdS_of_own (xs := [sC]) (lit_own (w := w) (xs := [.string sC]) (n := 1) (t := 9) rfl (by omega)))
theorem rdIx_nil (w : World) (S : Nat → Prop) : RdIx w S (.slice none 0 0) (.slice none 0 0) (.slice none 0 0) (indexOf []) := by
 have h1 : (indexOf []).ents = [] := rfl
 have h2 : (indexOf []).vals = [] := rfl
 have h3 : (indexOf []).lists = [] := rfl
 refine ⟨?_, ?_, fun _ => .bool false, ?_, fun i hi => ?_⟩
 ·rw [h1]; exact InK.nil
 ·rw [h2]; exact InK.nil
 ·rw [h3]; exact InK.nil
 ·rw [h3] at hi; exact absurd hi (by simp)
theorem lit_n {w : World} {xs : List Nat} {n : Nat} (hn : xs.length = n) (hp : n ≤ 16) : InN (w.alloc (.cells (natsV xs).toArray 3)) (· < (w.alloc (.cells (natsV xs).toArray 3)).heap.size) (.slice (some ⟨w.heap.size, 0, none⟩) n n) xs := by
 have h := own_in (lit_own (w := w) (xs := natsV xs) (n := n) (t := 3) (by simp [natsV, hn]) hp) hn.symm
 exact InK.more h fun k hk => hk.2
theorem okF31 : Fr.OkF false 3 1 where
 pos := by omega
 low := by decide
 sign := fun _ => rfl
 num := Fr.small_pow (by omega)
 den := Fr.small_pow (by omega)
set_option maxRecDepth 100000 in
set_option maxHeartbeats 8000000 in
theorem law19_sane (w : World) (ho : Fr.OneAt w) : Calls Tryz.prog 18 #[] w (Ret w (.bool true)) := by
 have HO := hid ho
 clear ho
 go_enter Tryz.func18, Tryz.ntmps18
 go_wp2_with fail
 with_reducible refine (ref18_New _).mono ?_
 rintro e w1 ⟨rfl, hb1⟩
 have HB1 := hid (hb1.alloc hb1.size (.cells #[.string ⟨#[97]⟩, .string ⟨#[98]⟩, .string ⟨#[99]⟩] 9))
 have HA1 := ref18_Add [] ok19n (.slice none 0 0) (.slice none 0 0) (.slice none 0 0) (.slice (some ⟨w1.heap.size, 0, none⟩) 3 3) 0 0 q19 (w1.alloc (.cells #[.string ⟨#[97]⟩, .string ⟨#[98]⟩, .string ⟨#[99]⟩] 9)) (rdIx_nil _ _) lit_q asc19 (by decide) (by omega) (by omega) (fun _ h => absurd h (by simp)) (by decide)
 rw [show ((0, 0), q19) = c19a from rfl, put19a, show ((0 : Nat) : Int) = 0 from rfl] at HA1
 have HA1 := hid HA1
 clear hb1
 go_wp2_with fail
 with_reducible refine HA1.out.mono ?_
 rintro e w2 ⟨ev2, vv2, lv2, rfl, hrx2, hb2⟩
 obtain ⟨ea2, ec2, rfl, -⟩ := id hrx2.ents
 obtain ⟨va2, vc2, rfl, -⟩ := id hrx2.vals
 obtain ⟨lf2, ⟨la2, lc2, rfl, -⟩, -⟩ := id hrx2.lists
 have HB2 := hid (HB1.out.trans (hb2.mono HB1.out.size))
 have hrx2 := hrx2.more (S' := fun k => k < w2.heap.size) fun k hk => hk.2
 generalize (indexOf [c19a]).ents.length = n1 at *
 generalize (indexOf [c19a]).vals.length = n2 at *
 generalize (indexOf [c19a]).lists.length = n3 at *
 have HX3 := hid (BoxN.new w2 #[.slice ea2 n1 ec2, .slice va2 n2 vc2, .slice la2 n3 lc2] 30)
 have HB3 := hid (HB2.out.alloc HB2.out.size (.cells #[.slice ea2 n1 ec2, .slice va2 n2 vc2, .slice la2 n3 lc2] 30))
 have hrx3 := (hrx2.keep (w' := w2.alloc (.cells #[.slice ea2 n1 ec2, .slice va2 n2 vc2, .slice la2 n3 lc2] 30)) fun p hp => World.cell?_alloc_lt _ _ _ hp).more (S' := fun k => k < (w2.alloc (.cells #[.slice ea2 n1 ec2, .slice va2 n2 vc2, .slice la2 n3 lc2] 30)).heap.size) fun k hk => (by rw [World.size_alloc]; omega)
 have x0 := HX3.out.cell 0 rfl
 have x1 := HX3.out.cell 1 rfl
 have x2 := HX3.out.cell 2 rfl
 obtain ⟨w3, hw3⟩ : ∃ V, V = w2.alloc (.cells #[.slice ea2 n1 ec2, .slice va2 n2 vc2, .slice la2 n3 lc2] 30) := ⟨_, rfl⟩
 rw [← hw3] at HX3 HB3 hrx3 x0 x1 x2
 have HA2 := ref18_Add [c19a] ok19a (.slice ea2 n1 ec2) (.slice va2 n2 vc2) (.slice la2 n3 lc2) (.slice (some ⟨w3.heap.size, 0, none⟩) 1 1) 0 1 [sC] (w3.alloc (.cells #[.string ⟨#[99]⟩] 9)) ((hrx3.keep fun p hp => World.cell?_alloc_lt _ _ _ hp).more fun k hk => (show k < _ by rw [World.size_alloc]; omega)) lit_c asc19c (by decide) (by omega) (by omega) (fun x hx => by rw [List.mem_singleton.1 hx]; decide) (by decide)
 rw [show ((0, 1), [sC]) = c19b from rfl, put19b, show ((1 : Nat) : Int) = 1 from rfl] at HA2
 have HA2 := hid HA2
 have HB3c := hid (HB3.out.alloc HB3.out.size (.cells #[.string ⟨#[99]⟩] 9))
 have HX3c := hid (HX3.out.alloc (.cells #[.string ⟨#[99]⟩] 9))
 clear HA1 hb2 hrx2 hrx3
 go_upto_region 2 with fail
 rw [← hw3]
 clear hw3
 go_wp2_with fail
 with_reducible refine HA2.out.mono ?_
 rintro e w4 ⟨ev4, vv4, lv4, rfl, hrx4, hb4⟩
 obtain ⟨ea, ec, rfl, -⟩ := id hrx4.ents
 obtain ⟨va, vc, rfl, -⟩ := id hrx4.vals
 obtain ⟨lf4, ⟨la, lc, rfl, -⟩, -⟩ := id hrx4.lists
 have HB4 := hid (HB3c.out.trans (hb4.mono HB3c.out.size))
 have hX4 := HX3c.out.below hb4 HX3c.out.lt
 have HRX4 := hid hrx4
 generalize (indexOf cs19).ents.length = m1 at *
 generalize (indexOf cs19).vals.length = m2 at *
 generalize (indexOf cs19).lists.length = m3 at *
 have HX4 := hid hX4
 have f0 := hX4.frozen 0
 have f1 := hX4.frozen 1
 have f2 := hX4.frozen 2
 clear x0 x1 x2 hX4 hrx4 hb4
 have x0 := HX4.out.cell 0 rfl
 have x1 := HX4.out.cell 1 rfl
 have x2 := HX4.out.cell 2 rfl
 have hkx : w2.heap.size < w4.heap.size := HX4.out.lt
 obtain ⟨kx, hkxe⟩ : ∃ k, k = w2.heap.size := ⟨_, rfl⟩
 have hkw : w.heap.size ≤ kx := by rw [hkxe]; exact HB2.out.size
 have hk3 : kx < w3.heap.size := by rw [hkxe]; exact HX3.out.lt
 rw [← hkxe] at HX4 f0 f1 f2 x0 x1 x2 hkx ⊢
 clear hkxe
 go_upto_region 3 with fail
 have HX5 := hid (((HX4.out.set 0 (.slice ea m1 ec)).set 1 (.slice va m2 vc)).set 2 (.slice la m3 lc))
 have HB5 := hid (((HB4.out.setCell (p := ⟨kx, 0, none⟩) hkw (.slice ea m1 ec)).setCell (p := ⟨kx, 1, none⟩) hkw (.slice va m2 vc)).setCell (p := ⟨kx, 2, none⟩) hkw (.slice la m3 lc))
 have HRX5 := hid ((HRX4.out.keep (w' := (((w4.setCell ⟨kx, 0, none⟩ (.slice ea m1 ec)).setCell ⟨kx, 1, none⟩ (.slice va m2 vc)).setCell ⟨kx, 2, none⟩ (.slice la m3 lc))) fun p hp => World.cell?_of_block (by
  have h5 : kx < p.block := by have h6 := hp.1; rw [World.size_alloc] at h6; omega
  exact (Below.heap_setCell _ _ _ _ (by show p.block ≠ kx; omega)).trans ((Below.heap_setCell _ _ _ _ (by show p.block ≠ kx; omega)).trans (Below.heap_setCell _ _ _ _ (by show p.block ≠ kx; omega))))).more (S' := fun k => k < w4.heap.size) fun k hk => hk.2)
 have hsz : (((w4.setCell ⟨kx, 0, none⟩ (.slice ea m1 ec)).setCell ⟨kx, 1, none⟩ (.slice va m2 vc)).setCell ⟨kx, 2, none⟩ (.slice la m3 lc)).heap.size = w4.heap.size := by simp
 rw [← hsz] at HRX5
 clear x0 x1 x2 f0 f1 f2
 generalize ((w4.setCell ⟨kx, 0, none⟩ (.slice ea m1 ec)).setCell ⟨kx, 1, none⟩ (.slice va m2 vc)).setCell ⟨kx, 2, none⟩ (.slice la m3 lc) = w5 at *
 have HRX6 := (HRX5.out.keep (w' := w5.alloc (.cells #[.string ⟨#[97]⟩, .string ⟨#[98]⟩, .string ⟨#[99]⟩] 9)) fun p hp => World.cell?_alloc_lt _ _ _ hp).more (S' := fun k => k < (w5.alloc (.cells #[.string ⟨#[97]⟩, .string ⟨#[98]⟩, .string ⟨#[99]⟩] 9)).heap.size) fun k hk => (by rw [World.size_alloc]; omega)
 have HIN := hid (show SrcIn (w5.alloc (.cells #[.string ⟨#[97]⟩, .string ⟨#[98]⟩, .string ⟨#[99]⟩] 9)) cs19 q19 (.slice ea m1 ec) (.slice va m2 vc) (.slice la m3 lc) (.slice (some ⟨w5.heap.size, 0, none⟩) 3 3) from
  ⟨ok19, HRX6, rdS_of_own (xs := q19) (lit_own (w := w5) (xs := [.string ⟨#[97]⟩, .string ⟨#[98]⟩, .string ⟨#[99]⟩]) (n := 3) (t := 9) rfl (by omega)), asc19, by decide⟩)
 have HB6 := hid (HB5.out.alloc HB5.out.size (.cells #[.string ⟨#[97]⟩, .string ⟨#[98]⟩, .string ⟨#[99]⟩] 9))
 have HX6 := hid (HX5.out.alloc (.cells #[.string ⟨#[97]⟩, .string ⟨#[98]⟩, .string ⟨#[99]⟩] 9))
 clear HRX6 HRX5 hsz HA2
 go_upto_region 4 with fail
 obtain ⟨kq, hkq⟩ : ∃ k, k = w5.heap.size := ⟨_, rfl⟩
 obtain ⟨w6, hw6⟩ : ∃ V, V = w5.alloc (.cells #[.string ⟨#[97]⟩, .string ⟨#[98]⟩, .string ⟨#[99]⟩] 9) := ⟨_, rfl⟩
 rw [← hw6, ← hkq] at HIN ⊢
 rw [← hw6] at HB6 HX6
 clear hw6 hkq
 have x0 := HX6.out.cell 0 rfl
 have x1 := HX6.out.cell 1 rfl
 have x2 := HX6.out.cell 2 rfl
 have HTOP := hid (over_Top HIN.out 1 (by omega) (HO.out.below HB6.out))
 rw [show ((1 : Nat) : Int) = 1 from rfl] at HTOP
 go_wp2_with fail
 with_reducible refine HTOP.out.mono ?_
 rintro e w7 ⟨v1, c1, H1, ds, l1, k1, ln1, lc1, cn1, cc1, rfl, hrd1, hall1, hce1, hb7⟩
 have hH1 : H1 = [0] := hall1 _ hits19
 have hl1 : ds.length = 1 := by rw [hrd1.len, hH1]; rfl
 rw [hH1] at hrd1
 have HB7 := hid (HB6.out.trans (hb7.mono HB6.out.size))
 have HR7 := hid hrd1
 have HCE7 := hid hce1
 have HIN7 := hid (HIN.out.later hb7)
 have HX7 := hid (HX6.out.below hb7 HX6.out.lt)
 have HDS := hid hl1
 rw [hl1]
 clear hH1 hrd1 hall1 hce1 hb7 hl1 x0 x1 x2 HTOP
 go_upto_region 5 with fail
 have HBC := hid ((Below.refl w7.heap.size w7).alloc (Nat.le_refl _) (.cells #[.slice l1 ln1 lc1, .slice k1 cn1 cc1] 36))
 have HK8 := hid (BoxN.new w7 #[.slice l1 ln1 lc1, .slice k1 cn1 cc1] 36)
 obtain ⟨kc, hkc⟩ : ∃ k, k = w7.heap.size := ⟨_, rfl⟩
 obtain ⟨w8, hw8⟩ : ∃ V, V = w7.alloc (.cells #[.slice l1 ln1 lc1, .slice k1 cn1 cc1] 36) := ⟨_, rfl⟩
 rw [← hw8] at HBC HK8 ⊢
 rw [← hkc] at HK8 ⊢
 clear hw8 hkc
 have HB8 := hid (HB7.out.trans (HBC.out.mono HB7.out.size))
 have HR8 := hid (HR7.out.later HBC.out)
 have HCE8 := hid (HCE7.out.later HBC.out)
 have HIN8 := hid (HIN7.out.later HBC.out)
 have HX8 := hid (HX7.out.below HBC.out HX7.out.lt)
 clear HR7 HCE7 HIN7 HX7 HB7
 have HN9 := hid (lit_n (w := w8) (xs := [0, 1]) (n := 2) rfl (by omega))
 have HB89 := hid ((Below.refl w8.heap.size w8).alloc (Nat.le_refl _) (.cells #[.int .i64 0, .int .i64 1] 3))
 have HBO := hid (over_Bounds (w := w8.alloc (.cells #[.int .i64 0, .int .i64 1] 3)) (HIN8.out.later HB89.out) (L := [0, 1]) (K := []) (zlv := .slice (some ⟨w8.heap.size, 0, none⟩) 2 2) (zcv := .slice none 0 0) ⟨HN9.out, inN_none _ _ _, by decide, List.Pairwise.nil, by rw [vals19]; decide, fun _ h => absurd h (by simp), by decide⟩ 1 (by decide))
 rw [bnd19, show ((1 : Nat) : Int) = 1 from rfl, show ((0 : Nat) : Int) = 0 from rfl] at HBO
 have x0 := HX8.out.cell 0 rfl
 have x1 := HX8.out.cell 1 rfl
 have x2 := HX8.out.cell 2 rfl
 go_wp2_with fail
 with_reducible refine HBO.out.mono ?_
 rintro e w10 ⟨rfl, hb10⟩
 have HB810 := hid (HB89.out.trans (hb10.mono HB89.out.size))
 have HB10 := hid (HB8.out.trans (HB810.out.mono HB8.out.size))
 have HR10 := hid (HR8.out.later HB810.out)
 have HCE10 := hid (HCE8.out.later HB810.out)
 have HIN10 := hid (HIN8.out.later HB810.out)
 have HX10 := hid (HX8.out.below HB810.out HX8.out.lt)
 have HK10 := hid (HK8.out.below HB810.out HK8.out.lt)
 clear hb10 x0 x1 x2 HBO HN9 HB89 HB8 HR8 HCE8 HIN8 HX8 HK8
 obtain ⟨x, hx⟩ : ∃ x, ds = [x] := by
  have h := HDS.out
  match ds, h with
  | [x], _ => exact ⟨x, rfl⟩
 subst hx
 obtain ⟨b1, o1, cc, e1, -, hcell⟩ := hit_at HR10.out.mem (p := 0) (by simp)
 obtain ⟨rfl, -, rfl⟩ := Value.slice.inj e1
 have hrd := HR10.out.rd x (by simp)
 have hof := HR10.out.of
 have hcols := HR10.out.cols
 have HOFC : Hid (HitsOf den1 cs19 (comC cs19 q19) [x] ∧ [x].map (colQ cs19) = [0]) := hid ⟨hof, hcols⟩
 have hi := hof x (by simp)
 have hc0 : colQ cs19 x = 0 := by simpa using hcols
 rw [hc0] at hi
 have hp : x.1.p = 3 := by rw [hi.p, com19.1]; rfl
 have hq : x.1.q = 1 := by rw [hi.q, com19.1]; rfl
 have HTX : Hid (∀ W, Below w10.heap.size w10 W → Calls Tryz.prog 47 #[x.1.fr] W (Ret W (.string ⟨#[51]⟩))) := hid (fun W hW => by
  have h1 := hrd.kept hW
  rw [hp, hq] at h1
  have h := Fr.ref_Text1 _ 3 1 W h1 okF31 (by omega) (by omega)
  rw [show Fr.ftext 3 1 = ⟨#[51]⟩ by decide +kernel] at h
  exact h)
 obtain ⟨L, K, hct, hchk⟩ := cert_R (den := den1) (overlap_sco q19.length) ok19 nd19 (by decide) HCE10.out
 have HCT := hid hct
 have hck1 := hchk [0, 1] [x] hits19 hof hcols
 have hck2 := check19 hof hcols
 have HCK1 : Hid (∀ W, Below w10.heap.size w10 W → Calls Tryz.prog 31 #[.agg #[.slice ea m1 ec, .slice va m2 vc, .slice la m3 lc], .slice (some ⟨kq, 0, none⟩) 3 3, .int .i64 1, .slice (some ⟨b1, o1, none⟩) 1 c1, .agg #[.slice l1 ln1 lc1, .slice k1 cn1 cc1]] W (Ret W (.bool true))) := hid (fun W hW => by
  have h := over_Check (HIN10.out.later hW) (HCT.out.later hW) ((HR10.out.later hW).ms (by simp)) 1 (by omega) (HO.out.below (HB10.out.trans (hW.mono HB10.out.size)))
  rw [show checkB cs19 q19 L K 1 [x] = true from hck1] at h
  exact h)
 have HCK2 : Hid (∀ W, Below w10.heap.size w10 W → Calls Tryz.prog 31 #[.agg #[.slice ea m1 ec, .slice va m2 vc, .slice la m3 lc], .slice (some ⟨kq, 0, none⟩) 3 3, .int .i64 1, .slice (some ⟨b1, o1, none⟩) 1 c1, .agg #[.slice (some ⟨W.heap.size, 0, none⟩) 2 2, .slice (some ⟨W.heap.size + 1, 0, none⟩) 1 1]]
   ((W.alloc (.cells #[.int .i64 0, .int .i64 1] 3)).alloc (.cells #[.int .i64 0] 3)) (Ret ((W.alloc (.cells #[.int .i64 0, .int .i64 1] 3)).alloc (.cells #[.int .i64 0] 3)) (.bool true))) := hid (fun W hW => by
  have hW2 := (hW.alloc hW.size (.cells #[.int .i64 0, .int .i64 1] 3)).alloc (hW.alloc hW.size _).size (.cells #[.int .i64 0] 3)
  have n1 := lit_n (w := W) (xs := [0, 1]) (n := 2) rfl (by omega)
  have n2 := lit_n (w := W.alloc (.cells #[.int .i64 0, .int .i64 1] 3)) (xs := [0]) (n := 1) rfl (by omega)
  simp only [World.size_alloc] at n2
  have n3 := InK.more (InK.keep (w' := (W.alloc (.cells #[.int .i64 0, .int .i64 1] 3)).alloc (.cells #[.int .i64 0] 3)) n1 fun p hp => World.cell?_alloc_lt _ _ _ hp) (S' := fun k => k < ((W.alloc (.cells #[.int .i64 0, .int .i64 1] 3)).alloc (.cells #[.int .i64 0] 3)).heap.size) fun k hk => (by rw [World.size_alloc]; exact Nat.lt_succ_of_lt hk)
  have h := over_Check (L := [0, 1]) (K := [0]) (zcv := .slice (some ⟨W.heap.size + 1, 0, none⟩) 1 1) (HIN10.out.later hW2) ⟨n3, by simp only [World.size_alloc]; exact n2, by decide, by decide, by rw [vals19]; decide, by decide, by decide⟩ ((HR10.out.later hW2).ms (by simp)) 1 (by omega) (HO.out.below (HB10.out.trans (hW2.mono HB10.out.size)))
  rw [show checkB cs19 q19 [0, 1] [0] 1 [x] = true from hck2] at h
  exact h)
 have e0 : [x].getD 0 default = x := rfl
 rw [e0] at hcell
 clear hck1 hck2 hct hchk hof hcols hi hrd hc0 hp hq e0 e1 HR10 HCE10 HIN10 HOFC HCT HDS
 unfold Mh.fr at HTX
 generalize x.1 = y at *
 obtain ⟨ta, ca, ⟨na, nc⟩, ⟨da, dc⟩, P, Q⟩ := y
 have k2 : w10.cell? ⟨b1, o1 + 2, none⟩ = some (.bool false) := by have h := hcell 2 (by omega); simpa [encM] using h
 have k3 : w10.cell? ⟨b1, o1 + 3, none⟩ = some (.slice na (Fr.dig P).length nc) := by have h := hcell 3 (by omega); simpa [encM] using h
 have k4 : w10.cell? ⟨b1, o1 + 4, none⟩ = some (.bool false) := by have h := hcell 4 (by omega); simpa [encM] using h
 have k5 : w10.cell? ⟨b1, o1 + 5, none⟩ = some (.slice da (Fr.dig Q).length dc) := by have h := hcell 5 (by omega); simpa [encM] using h
 clear hcell
 simp only at HTX
 go_wp2_with fail
 with_reducible refine (HTX.out _ (Below.refl _ _)).mono ?_
 rintro e w11 ⟨rfl, hb11⟩
 have HB11 := hid hb11
 have hx11 := HX10.out.below hb11 HX10.out.lt
 have hk11 := HK10.out.below hb11 HK10.out.lt
 have x0 := hx11.cell 0 rfl
 have x1 := hx11.cell 1 rfl
 have x2 := hx11.cell 2 rfl
 have y0 := hk11.cell 0 rfl
 have y1 := hk11.cell 1 rfl
 clear hb11 hx11 hk11 k2 k3 k4 k5
 go_wp2_with fail
 with_reducible refine (HCK1.out _ HB11.out).mono ?_
 rintro e w12 ⟨rfl, hb12⟩
 have HB12 := hid (HB11.out.trans (hb12.mono HB11.out.size))
 have hx12 := HX10.out.below HB12.out HX10.out.lt
 clear x0 x1 x2 y0 y1 hb12
 have x0 := hx12.cell 0 rfl
 have x1 := hx12.cell 1 rfl
 have x2 := hx12.cell 2 rfl
 clear hx12
 have HBE := hid (HB10.out.trans (HB12.out.mono HB10.out.size))
 have HBF := hid ((HBE.out.alloc HBE.out.size (.cells #[.int .i64 0, .int .i64 1] 3)).alloc (HBE.out.alloc HBE.out.size _).size (.cells #[.int .i64 0] 3))
 go_wp2_with fail
 with_reducible refine (HCK2.out _ HB12.out).mono ?_
 rintro e w13 ⟨rfl, hb13⟩
 have HBG := hid (HBF.out.trans (hb13.mono HBF.out.size))
 clear hb13
 go_wp2
 go_ret
 exact ⟨rfl, HBG.out⟩
end Go.Proofs.YtikiimlmoalbcaaGreatDoor

namespace Go.Proofs.YtikiimlmoalbcaaGreatDoor
open Go.RowKit
def insL (L : List Nat) (i : Nat) : List Nat := L.filter (fun x => decide (x < i)) ++ i :: L.filter (fun x => decide (i < x))
def insP (L : List Nat) (i p : Nat) : List Nat × Bool :=
  if (L.take p).all (fun x => decide (x < i)) then (L.take p, false) else (insL (L.take p) i, true)
end Go.Proofs.YtikiimlmoalbcaaGreatDoor

namespace Go.Proofs.YtikiimlmoalbcaaGreatDoor
open Go.RowKit
def Q19P (w : World) (g : Nat) (e : Ending) (w' : World) : Prop :=
  ∃ (a : Option Addr) (c : Nat) (q : List ByteArray), e = .returned (.slice a q.length c) ∧ w'.ownsRow w.heap.size 9 1 (.slice a q.length c) q.length (q.map Value.string) ∧ Asc q ∧ q.length ≤ 65540 ∧ DiceAt 89 w' g ∧ Roll w.heap.size g w w'
set_option maxRecDepth 100000 in
set_option maxHeartbeats 4000000 in
theorem law19_query (g : Nat) (ev vv lv : Value) (ix : Ix) (S : Nat → Prop) (w : World) (hd : DiceAt 89 w g) (hx : RdIx w S ev vv lv ix) (hS : ∀ k, S k → k < w.heap.size ∧ k ≠ g) (hl : ix.vals.length ≤ 65536) :
  Calls Tryz.prog 19 #[.pointer (some ⟨g, 0, none⟩), .agg #[ev, vv, lv]] w (Q19P w g) := by
 obtain ⟨i0, hi, hz0, hz1, hz2⟩ := info_parts info_str
 have hgl := hd.lt
 obtain ⟨ea, ec, rfl, -⟩ := hx.ents
 obtain ⟨lf, ⟨la, lc, rfl, -⟩, -⟩ := id hx.lists
 obtain ⟨va, vc, rfl, hvc, hvm, hvr⟩ := hx.vals
 have HVR := hid (fun i (hi : i < ix.vals.length) => (by
  obtain ⟨b, o, e, hb, hc⟩ := hvr (by omega)
  exact ⟨b, o, e, hS b hb, by have h := hc i hi 0 (by omega); simp only [Nat.mul_one, Nat.add_zero] at h; exact h⟩ : ∃ b o, va = some ⟨b, o, none⟩ ∧ (b < w.heap.size ∧ b ≠ g) ∧ w.cell? ⟨b, o + i, none⟩ = some (.string (ix.vals.getD i ⟨#[]⟩))))
 have HD := hid hd
 clear hx hvr
 generalize ix.vals.length = n at *
 have HB0 := hid ((Below.refl w.heap.size w).alloc (Nat.le_refl _) (.cells #[.slice ea ix.ents.length ec, .slice va n vc, .slice la ix.lists.length lc] 30))
 have HX0 := hid (BoxN.new w #[.slice ea ix.ents.length ec, .slice va n vc, .slice la ix.lists.length lc] 30)
 have HD0 := hid (HD.out.alloc (.cells #[.slice ea ix.ents.length ec, .slice va n vc, .slice la ix.lists.length lc] 30))
 clear hS hd
 unfold maxLen at hvm
 go_enter Tryz.func19, Tryz.ntmps19
 go_wp2_with fail
 with_reducible refine (dice_Texts g 4 _ HD0.out (by omega) (by omega)).mono ?_
 rintro e w1 ⟨a1, c1, xs, rfl, hown1, hxl, -, hd1, hr1⟩
 have HX1 := hid (show BoxN w1 w.heap.size 30 #[.slice ea ix.ents.length ec, .slice va n vc, .slice la ix.lists.length lc] from (hr1.block _ HX0.out.lt (by omega)).trans HX0.out)
 have x1 := HX1.out.cell 1 rfl
 have HO1 := hid (own_base hown1 (show w.heap.size ≤ (w.alloc (.cells #[.slice ea ix.ents.length ec, .slice va n vc, .slice la ix.lists.length lc] 30)).heap.size by rw [World.size_alloc]; omega))
 have HD1 := hid hd1
 have HR1 := hid ((Roll.of_below HB0.out g).trans (hr1.mono (by rw [World.size_alloc]; omega)))
 have hz1' := HR1.out.size
 clear hown1 hd1 hr1
 go_wp2_with fail
 go_loopg [13, 5, 7] n (fun K i o u7 wr => ∃ (p : Nat) (ys : List ByteArray) (a : Option Addr) (c : Nat), i = .int .i64 (p : Int) ∧ p + K = n ∧ o = .slice a ys.length c ∧ ys.length ≤ 4 + p ∧ Hid (wr.ownsRow w.heap.size 9 1 (.slice a ys.length c) ys.length (ys.map Value.string)) ∧ Hid (DiceAt 89 wr g) ∧ Hid (Roll w.heap.size g w wr))
 case atStart => exact ⟨0, xs, a1, c1, rfl, by omega, rfl, by omega, HO1, HD1, HR1⟩
 case round =>
  obtain ⟨p, ys, a, c, rfl, hp0, rfl, hyl, HO, HDD, HR⟩ := hrel
  have hzr := HR.out.size
  clear x1
  by_cases hp : 0 < gk
  ·have hpl : p < n := by omega
   have hpi : (p : Int) < (n : Int) := by omega
   obtain ⟨b, o, rfl, hb, k0⟩ := HVR.out p hpl
   have k0 := (HR.out.cell (p := ⟨b, o + p, none⟩) hb.1 hb.2).trans k0
   have HPK := hid (dice_Pick g 2 wr HDD.out (by omega) (by omega))
   generalize ix.vals.getD p ⟨#[]⟩ = s at *
   go_wp2_with fail
   with_reducible refine HPK.out.mono ?_
   rintro e w3 ⟨m, rfl, hm, hd3, hr3, hs3⟩
   have HD3 := hid hd3
   have HR3 := hid (HR.out.trans (hr3.mono hzr))
   have hown3 := own_roll HO.out hr3 (Nat.le_refl _) (by omega)
   have HO3 := hid hown3
   have hz3 := HR3.out.size
   clear hd3 hr3 hown3 hs3 k0
   by_cases hm0 : m = 0
   ·subst hm0
    obtain ⟨yl, hylen⟩ : ∃ yl, yl = ys.length := ⟨_, rfl⟩
    rw [← hylen] at HO3 hyl ⊢
    have HYL := hid hylen
    clear hylen
    go_wp2_with (at_builtin; refine wpList_append_form _ rfl (.tmp 20) (.tmp 22) 27 27 rfl w.heap.size 9 9 i0 (.string ⟨#[]⟩) 1 16 Tryz.underlying27 Tryz.underlying27 hi hz0 hz1 hz2 rfl (by decide) (.slice a yl c) yl (ys.map Value.string) rfl (HO3.out.alloc _) (some ⟨_, 0, none⟩) 1 1 [.string s] rfl rfl (fun _ => ⟨_, rfl, cell_one_new _ _ _⟩) (by intro u hu; simp at hu; subst hu; rfl) (by omega) (by unfold maxLen; omega) (by omega) (by simp; omega) ?_; intro g7 cap7 w7 hown7 hg7 hat7 hlt7; have HOWN7 := hid hown7; have HR7 := hid ((HR3.out.alloc hz3 (.cells #[.string s] 9)).grown hg7 (by rw [World.size_alloc]; omega) (fun k hk => (HO3.out.lt k hk).1)); have HD7 := hid (HD3.out.keep (w' := w7) (fun k hk => by
      have hgz := HD3.out.lt
      rw [hg7.block k (by rw [World.size_alloc]; omega) (fun e => by have := (HO3.out.lt k e.symm).1; omega), Below.heap_alloc _ _ _ (by omega)])); clear hown7 hg7 hat7 hlt7)
    go_wp2
    go_roundg (gk - 1)
    case rel => exact ⟨p + 1, ys ++ [s], _, cap7, by go_num, by omega, by rw [List.length_append, ← HYL.out]; rfl, by rw [List.length_append, ← HYL.out, List.length_singleton]; omega, hid (by rw [List.length_append, ← HYL.out, List.map_append]; exact HOWN7.out), HD7, HR7⟩
    case measure => omega
   ·have hmi : ((m : Int) == 0) = false := by rw [beq_eq_false_iff_ne]; omega
    have hmi2 : ¬ (m : Int) = 0 := by omega
    clear hm0
    go_wp2_with fail
    go_roundg (gk - 1)
    case rel => exact ⟨p + 1, ys, a, c, by go_num, by omega, rfl, by omega, HO3, HD3, HR3⟩
    case measure => omega
  ·obtain rfl : gk = 0 := by omega
   obtain rfl : p = n := by omega
   have HSET := hid (ref_Set _ ys wr.heap.size wr (rdS_of_own HO.out) (Nat.le_refl _) (by omega))
   have hsl := setOfL_len ys
   have HASC := hid (setOfL_asc ys)
   generalize setOfL ys = zs at *
   go_wp2_with fail
   with_reducible refine HSET.out.mono ?_
   rintro e w4 ⟨a4, c4, rfl, hown4, hb4⟩
   have HO4 := hid (own_base hown4 hzr)
   have HR4 := hid (HR.out.trans ((Roll.of_below hb4 g).mono hzr))
   have HD4 := hid (HDD.out.below hb4 HDD.out.lt)
   clear hown4 hb4
   obtain ⟨zl, hzl⟩ : ∃ zl, zl = zs.length := ⟨_, rfl⟩
   have HZL : Hid (Q19P w g (.returned (.slice a4 zl c4)) w4) := hid ⟨a4, c4, zs, by rw [hzl], HO4.out, HASC.out, by omega, HD4.out, HR4.out⟩
   rw [← hzl]
   clear hzl
   go_wp2
   go_ret
   exact HZL.out
end Go.Proofs.YtikiimlmoalbcaaGreatDoor

namespace Go.Proofs.YtikiimlmoalbcaaGreatDoor
open Go.RowKit
theorem own_farB {w : World} {base : Nat} {e : TypeId} {size n : Nat} {v : Value} {xs : List Value} (h : w.ownsRow base e size v n xs) {p : Addr} (hp : p.block < base) (u : Value) : (w.setCell p u).ownsRow base e size v n xs :=
 own_roll h ((Roll.refl w.heap.size p.block w).setCell rfl u) (Nat.le_refl _) hp
def intsV (zs : List Int) : List Value := zs.map fun z => .int .i64 z
theorem intsV_push (zs : List Int) (z : Int) : intsV zs ++ [.int .i64 z] = intsV (zs ++ [z]) := by simp [intsV]
theorem ints_in {w : World} {base : Nat} {v : Value} {zs : List Int} {e : TypeId} (h : w.ownsRow base e 1 v zs.length (intsV zs)) : InZ w (fun k => base ≤ k ∧ k < w.heap.size) v zs := by
 have e1 : intsV zs = flatK 1 zs.length (fun i _ => .int .i64 (zs.getD i 0)) := by
  have key : ∀ m, m ≤ zs.length → intsV (zs.take m) = flatK 1 m (fun i _ => .int .i64 (zs.getD i 0)) := by
   intro m
   induction m with
   | zero => intro _; rfl
   | succ m ih =>
    intro hm
    rw [flatK_succ, ← ih (by omega), List.take_succ_eq_append_getElem (show m < zs.length by omega), ← intsV_push]
    congr 1
    simp [List.getD, show m < zs.length by omega]
  have h1 := key zs.length (Nat.le_refl _)
  rwa [List.take_length] at h1
 rw [e1] at h
 exact InK.more (inK_of_owns h) fun b hb => h.lt b hb
structure CtSt (w wr : World) (g : Nat) (ev vv lv zlv zcv : Value) (zs ks : List Int) : Prop where
  roll : Roll w.heap.size g w wr
  dice : DiceAt 89 wr g
  ix : BoxN wr w.heap.size 30 #[ev, vv, lv]
  res : BoxN wr (w.heap.size + 1) 36 #[.slice none 0 0, .slice none 0 0]
  box : BoxN wr (w.heap.size + 2) 36 #[zlv, zcv]
  ol : wr.ownsRow (w.heap.size + 3) 3 1 zlv zs.length (intsV zs)
  oc : wr.ownsRow (w.heap.size + 3) 3 1 zcv ks.length (intsV ks)
  apart : ∀ b, zlv.ownBlock = some b → zcv.ownBlock ≠ some b
def Cert19P (w : World) (g n m : Nat) (e : Ending) (w' : World) : Prop :=
  ∃ (zlv zcv : Value) (zs ks : List Int), e = .returned (.agg #[zlv, zcv]) ∧ InZ w' (fun k => w.heap.size ≤ k ∧ k < w'.heap.size) zlv zs ∧ InZ w' (fun k => w.heap.size ≤ k ∧ k < w'.heap.size) zcv ks ∧ zs.length ≤ n + 1 ∧ ks.length ≤ m + 1 ∧
    ((∃ L K : List Nat, zs = L.map (fun x : Nat => (x : Int)) ∧ ks = K.map (fun x : Nat => (x : Int)) ∧ L.Pairwise (· < ·) ∧ K.Pairwise (· < ·) ∧ (∀ x ∈ L, x < n) ∧ ∀ x ∈ K, x < m) ∨ (numB zs (n : Int) && numB ks (m : Int)) = false) ∧
    DiceAt 89 w' g ∧ Roll w.heap.size g w w'
theorem CtSt.done {w wr W : World} {g n m : Nat} {ev vv lv zlv zcv u1 u2 : Value} {zs ks : List Int} (h : CtSt w wr g ev vv lv zlv zcv zs ks) (hg : g < w.heap.size) (hW : W = (wr.setCell ⟨w.heap.size + 1, 0, none⟩ u1).setCell ⟨w.heap.size + 1, 1, none⟩ u2) (h1 : zs.length ≤ n + 1) (h2 : ks.length ≤ m + 1)
  (h3 : (∃ L K : List Nat, zs = L.map (fun x : Nat => (x : Int)) ∧ ks = K.map (fun x : Nat => (x : Int)) ∧ L.Pairwise (· < ·) ∧ K.Pairwise (· < ·) ∧ (∀ x ∈ L, x < n) ∧ ∀ x ∈ K, x < m) ∨ (numB zs (n : Int) && numB ks (m : Int)) = false) : Cert19P w g n m (.returned (.agg #[zlv, zcv])) W := by
 subst hW
 have hr : Roll w.heap.size g w ((wr.setCell ⟨w.heap.size + 1, 0, none⟩ u1).setCell ⟨w.heap.size + 1, 1, none⟩ u2) := (h.roll.trans (Roll.of_below (((Below.refl w.heap.size wr).setCell (p := ⟨w.heap.size + 1, 0, none⟩) (by show w.heap.size ≤ w.heap.size + 1; omega) u1).setCell (p := ⟨w.heap.size + 1, 1, none⟩) (by show w.heap.size ≤ w.heap.size + 1; omega) u2) g))
 have o1 := own_farB (own_farB h.ol (p := ⟨w.heap.size + 1, 0, none⟩) (by show w.heap.size + 1 < w.heap.size + 3; omega) u1) (p := ⟨w.heap.size + 1, 1, none⟩) (by show w.heap.size + 1 < w.heap.size + 3; omega) u2
 have o2 := own_farB (own_farB h.oc (p := ⟨w.heap.size + 1, 0, none⟩) (by show w.heap.size + 1 < w.heap.size + 3; omega) u1) (p := ⟨w.heap.size + 1, 1, none⟩) (by show w.heap.size + 1 < w.heap.size + 3; omega) u2
 refine ⟨zlv, zcv, zs, ks, rfl, InK.more (ints_in o1) fun k hk => ⟨by have := hk.1; omega, hk.2⟩, InK.more (ints_in o2) fun k hk => ⟨by have := hk.1; omega, hk.2⟩, h1, h2, h3, ?_, hr⟩
 exact h.dice.keep fun k hk => (Below.heap_setCell _ _ _ _ (by show k ≠ w.heap.size + 1; omega)).trans (Below.heap_setCell _ _ _ _ (by show k ≠ w.heap.size + 1; omega))
end Go.Proofs.YtikiimlmoalbcaaGreatDoor

namespace Go.Proofs.YtikiimlmoalbcaaGreatDoor.Fr
theorem pow_split (i : Nat) : 2 ^ i = 4294967296 ^ (i / 32) * 2 ^ (i % 32) := by
 have h := Nat.div_add_mod i 32
 rw [show (4294967296 : Nat) = 2 ^ 32 from rfl, ← Nat.pow_mul, ← Nat.pow_add, h]
theorem or_bit {d j : Nat} (h : d % 2 ^ (j + 1) = 0) : d ||| 2 ^ j = d + 2 ^ j := by
 obtain ⟨m, hm⟩ : ∃ m, d = 2 ^ (j + 1) * m := ⟨d / 2 ^ (j + 1), by have := Nat.div_add_mod d (2 ^ (j + 1)); omega⟩
 have h2 : 2 ^ j < 2 ^ (j + 1) := Nat.pow_lt_pow_right (by omega) (by omega)
 rw [hm, Nat.two_pow_add_eq_or_of_lt h2]
structure DivIn (A B i : Nat) (zs : List Nat) (r : Nat) : Prop where
  len : zs.length = (dig A).length
  digs : Digs zs
  quo : val zs = A / 2 ^ i / B * 2 ^ i
  rem : r = A / 2 ^ i % B
theorem val_digit : ∀ (k : Nat) {zs : List Nat}, Digs zs → zs.getD k 0 = val zs / 4294967296 ^ k % 4294967296
 | k, [], _ => by simp [val]
 | 0, z :: zs, h => by
  have := h.head
  simp [val]
  omega
 | k + 1, z :: zs, h => by
  have h1 := h.head
  rw [List.getD_cons_succ, val_digit k h.tail, Nat.pow_succ, Nat.mul_comm, ← Nat.div_div_eq_div_mul]
  congr 2
  simp only [val]
  omega
theorem DivIn.start (A B : Nat) : DivIn A B (32 * (dig A).length) (List.replicate (dig A).length 0) 0 := by
 have h0 : A / 2 ^ (32 * (dig A).length) = 0 := by
  apply Nat.div_eq_of_lt
  have h1 := val_lt (digs_dig A)
  rw [val_dig] at h1
  rw [Nat.pow_mul]
  exact h1
 refine ⟨by simp, fun i => ?_, ?_, ?_⟩
 ·by_cases h : i < (dig A).length
  ·simp [List.getD, h]
  ·simp [List.getD, Nat.not_lt.1 h]
 ·rw [val_replicate, h0]; simp
 ·rw [h0]; simp
section
variable {A B i : Nat} {zs : List Nat} {r : Nat}
theorem DivIn.half (_ : DivIn A B (i + 1) zs r) : A / 2 ^ i = 2 * (A / 2 ^ (i + 1)) + A / 2 ^ i % 2 := by
 rw [Nat.pow_succ, ← Nat.div_div_eq_div_mul]
 have := Nat.div_add_mod (A / 2 ^ i) 2
 omega
theorem DivIn.clear (h : DivIn A B (i + 1) zs r) : zs.getD (i / 32) 0 % 2 ^ (i % 32 + 1) = 0 := by
 rw [val_digit _ h.digs, h.quo]
 generalize A / 2 ^ (i + 1) / B = Q
 have hj : i % 32 < 32 := Nat.mod_lt _ (by omega)
 have h1 : 2 ^ (i + 1) = 4294967296 ^ (i / 32) * 2 ^ (i % 32 + 1) := by rw [Nat.pow_succ, pow_split i, Nat.pow_succ, Nat.mul_assoc]
 rw [h1, Nat.mul_left_comm, Nat.mul_div_cancel_left _ (Nat.pow_pos (by omega))]
 generalize i % 32 = j at *
 have h2 : (4294967296 : Nat) = 2 ^ (j + 1) * 2 ^ (31 - j) := by
  rw [show (4294967296 : Nat) = 2 ^ 32 from rfl, ← Nat.pow_add]
  congr 1; omega
 rw [h2, Nat.mod_mul_right_mod, Nat.mul_mod_left]
theorem DivIn.up (h : DivIn A B (i + 1) zs r) (hB : 0 < B) (hi : i / 32 < (dig A).length) (hr : r < B) (hge : B ≤ 2 * r + A / 2 ^ i % 2) :
  DivIn A B i (zs.set (i / 32) (zs.getD (i / 32) 0 ||| 2 ^ (i % 32))) (2 * r + A / 2 ^ i % 2 - B) ∧ zs.getD (i / 32) 0 ||| 2 ^ (i % 32) < 4294967296 := by
 have h1 := h.half
 have h2 := Nat.div_add_mod (A / 2 ^ (i + 1)) B
 rw [← h.rem] at h2
 have hb : A / 2 ^ i % 2 < 2 := Nat.mod_lt _ (by omega)
 have hlt : 2 * r + A / 2 ^ i % 2 - B < B := by omega
 have h3 : A / 2 ^ i = B * (2 * (A / 2 ^ (i + 1) / B) + 1) + (2 * r + A / 2 ^ i % 2 - B) := by
  have h4 : B * (2 * (A / 2 ^ (i + 1) / B) + 1) = 2 * (B * (A / 2 ^ (i + 1) / B)) + B := by rw [Nat.mul_succ, Nat.mul_left_comm]
  omega
 have h5 : A / 2 ^ i / B = 2 * (A / 2 ^ (i + 1) / B) + 1 := by
  have h7 : (B * (2 * (A / 2 ^ (i + 1) / B) + 1) + (2 * r + A / 2 ^ i % 2 - B)) / B = 2 * (A / 2 ^ (i + 1) / B) + 1 := by
   rw [Nat.mul_add_div hB, Nat.div_eq_of_lt hlt, Nat.add_zero]
  rw [← h3] at h7
  exact h7
 have h6 : A / 2 ^ i % B = 2 * r + A / 2 ^ i % 2 - B := by
  have h7 : (B * (2 * (A / 2 ^ (i + 1) / B) + 1) + (2 * r + A / 2 ^ i % 2 - B)) % B = 2 * r + A / 2 ^ i % 2 - B := by rw [Nat.mul_add_mod, Nat.mod_eq_of_lt hlt]
  rw [← h3] at h7
  exact h7
 have hcl := h.clear
 have hor := or_bit hcl
 have hj : i % 32 < 32 := Nat.mod_lt _ (by omega)
 have hd := h.digs (i / 32)
 have hsm : zs.getD (i / 32) 0 ||| 2 ^ (i % 32) < 4294967296 := by
  have := Nat.or_lt_two_pow (x := zs.getD (i / 32) 0) (y := 2 ^ (i % 32)) (n := 32) hd (Nat.pow_lt_pow_right (by omega) hj)
  exact this
 refine ⟨⟨by rw [List.length_set, h.len], h.digs.set _ _ hsm, ?_, h6.symm⟩, hsm⟩
 have hv := val_set (zs := zs) (p := i / 32) (d := zs.getD (i / 32) 0 ||| 2 ^ (i % 32)) (by rw [h.len]; exact hi)
 rw [hor, Nat.mul_add, ← pow_split] at hv
 rw [hor]
 have h8 : val zs = A / 2 ^ (i + 1) / B * 2 ^ (i + 1) := h.quo
 have h9 : A / 2 ^ (i + 1) / B * 2 ^ (i + 1) = 2 * (A / 2 ^ (i + 1) / B) * 2 ^ i := by
  rw [Nat.pow_succ, Nat.mul_comm (2 ^ i) 2, Nat.mul_left_comm, Nat.mul_assoc]
 rw [h5, Nat.succ_mul, ← h9, ← h8]
 omega
end
end Go.Proofs.YtikiimlmoalbcaaGreatDoor.Fr
namespace Go.Proofs.YtikiimlmoalbcaaGreatDoor.Fr
open Go.RowKit
theorem Own32.later {w w' : World} {g N : Nat} {zs : List Nat} (h : Own32 w g N zs) (hb : Below w.heap.size w w') : Own32 w' g N zs := by
 obtain ⟨h1, h2, h3, h4⟩ := h
 exact ⟨h1, h2, Nat.lt_of_lt_of_le h3 hb.size, fun i hi => ⟨(hb.cell (p := ⟨g, i, none⟩) h3).trans (h4 i hi).1, (hb.frozen (p := ⟨g, i, none⟩) h3).trans (h4 i hi).2⟩⟩
def GivesQRr (w : World) (q r : Nat) (e : Ending) (w' : World) : Prop :=
  ∃ a c a' c', e = .returned (.tuple #[.slice a (dig q).length c, .slice a' (dig r).length c']) ∧ Rd32 w' (.slice a (dig q).length c) (dig q) ∧ (∀ R, R < w.heap.size → Off R (.slice a (dig q).length c)) ∧ Below w.heap.size w w'
end Go.Proofs.YtikiimlmoalbcaaGreatDoor.Fr
namespace Go.Proofs.YtikiimlmoalbcaaGreatDoor.Fr
open Go.RowKit
end Go.Proofs.YtikiimlmoalbcaaGreatDoor.Fr

namespace Go.Proofs.YtikiimlmoalbcaaGreatDoor
open Go.RowKit
theorem rdU_laterB {w w1 : World} {sa : Option Addr} {sn sc : Nat} (h : RdU w w.heap.size sa sn sc) (hb1 : Below w.heap.size w w1) : RdU w1 w1.heap.size sa sn sc := by
 obtain ⟨h1, h2, h3⟩ := h
 refine ⟨h1, h2, fun hp => ?_⟩
 obtain ⟨b, o, e, hlt, hc⟩ := h3 hp
 exact ⟨b, o, e, by have := hb1.size; omega, fun i hi => by
  obtain ⟨x, hx, hcx⟩ := hc i hi
  exact ⟨x, hx, (hb1.cell (p := ⟨b, o + i, none⟩) hlt).trans hcx⟩⟩
end Go.Proofs.YtikiimlmoalbcaaGreatDoor

namespace Go.Proofs.YtikiimlmoalbcaaGreatDoor
open Go.RowKit
end Go.Proofs.YtikiimlmoalbcaaGreatDoor

namespace Go.Proofs.YtikiimlmoalbcaaGreatDoor
open Go.RowKit
structure MoSt (W wr : World) (g km : Nat) (mv zcv : Value) (xs : List Nat) : Prop where
  roll : Roll km g W wr
  box : BoxN wr km 36 #[mv, zcv]
  own : wr.ownsRow (km + 1) 3 1 mv xs.length (natsV xs)
theorem rdS_S {w : World} {base : Nat} {v : Value} {xs : List ByteArray} (h : w.ownsRow base 9 1 v xs.length (xs.map Value.string)) : InS w (fun k => base ≤ k ∧ k < w.heap.size) v xs := by
 obtain ⟨a, c, rfl, h1, h2, h3⟩ := rdS_of_own h
 refine ⟨a, c, rfl, h1, h2, fun hp => ?_⟩
 obtain ⟨b, o, rfl, hb, hc⟩ := h3 hp
 refine ⟨b, o, rfl, h.lt b rfl, fun i hi j hj => ?_⟩
 obtain rfl : j = 0 := by omega
 have h4 := hc i hi
 simp [h4]
theorem MoSt.push {W wr w7 : World} {g km : Nat} {mv zcv : Value} {xs : List Nat} (h : MoSt W wr g km mv zcv xs) (hkm : km ≤ W.heap.size) {O : Obj} {p cap m z : Nat} (hm : m = xs.length)
  (hown : w7.ownsRow (km + 1) 3 1 (.slice (some ⟨p, 0, none⟩) (m + 1) cap) (m + 1) (natsV xs ++ [.int .i64 (z : Int)])) (hg : (wr.alloc O).grownBy w7 mv.ownBlock) :
  MoSt W (w7.setCell ⟨km, 0, none⟩ (.slice (some ⟨p, 0, none⟩) (m + 1) cap)) g km (.slice (some ⟨p, 0, none⟩) (m + 1) cap) zcv (xs ++ [z]) := by
 subst hm
 have hsz := h.box.lt
 have hb : ∀ k, mv.ownBlock = some k → km + 1 ≤ k ∧ k < wr.heap.size := fun k hk => h.own.lt k hk
 refine ⟨?_, ?_, ?_⟩
 ·exact ((h.roll.alloc (by omega) O).grown hg (by rw [World.size_alloc]; omega) fun k hk => by have := hb k hk; omega).trans (Roll.of_below ((Below.refl km w7).setCell (p := ⟨km, 0, none⟩) (Nat.le_refl _) _) g)
 ·exact BoxN.set (BoxN.grown (BoxN.alloc h.box O) hg (fun e => by have := hb _ e.symm; omega)) 0 _
 ·rw [List.length_append, List.length_singleton, show natsV (xs ++ [z]) = natsV xs ++ [.int .i64 (z : Int)] by simp [natsV]]
  exact own_farB hown (by show km < km + 1; omega) _
end Go.Proofs.YtikiimlmoalbcaaGreatDoor
