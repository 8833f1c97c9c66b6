/- The walk of OverlapKnown. OverlapKnown with its sanity check. Go's own tables where the call begins; how a list of texts is opened. The package variable one of fraction, where the call begins. -/
import Derived.Deep.Cut
import Derived.Deep.CutRange
import Derived.Test.YtikiimlmoalbcaaGreatDoorOKnbr
import Derived.Test.YtikiimlmoalbcaaGreatDoorOKnbs
import Derived.Test.YtikiimlmoalbcaaGreatDoorOKnbq
import Derived.Test.YtikiimlmoalbcaaGreatDoorTie
import Derived.Test.YtikiimlmoalbcaaGreatDoorCards
import Derived.Carry
import Derived.SizedLaws
import Derived.ProofKit
import Derived.OpenShut
import Derived.ChangeSlices
import Derived.SliceStrings
import Derived.LaidLaws
import Derived.LaidMore
import Derived.Lib.LaidU8T
import Derived.PinnedBridge
import Derived.SevenTiedAt
import Derived.Test.YtikiimlmoalbcaaGreatDoorOKnae
import Derived.Test.YtikiimlmoalbcaaGreatDoorOKnaa
import Derived.Test.YtikiimlmoalbcaaGreatDoorOKnay
set_option linter.unusedVariables false
set_option linter.unusedSimpArgs false
namespace Go.Proofs.YtikiimlmoalbcaaGreatDoor
open Go.RowKit
structure MoSt (W wr : World) (g km : Nat) (mv zcv : Value) (xs : List Nat) : Prop where
  roll : Roll km g W wr
  box : BoxN wr km 36 #[mv, zcv]
  own : wr.ownsRow (km + 1) 3 1 mv xs.length (natsV xs)
theorem inN_of_z {w : World} {S : Nat → Prop} {v : Value} {xs : List Nat} (h : InZ w S v (xs.map fun x : Nat => (x : Int))) : InN w S v xs := by
 unfold InZ at h
 rw [List.length_map] at h
 refine InK.congr h fun i hi j hj => ?_
 simp [natF, List.getD, hi]
theorem rdS_S {w : World} {base : Nat} {v : Value} {xs : List ByteArray} (h : w.ownsRow base 9 1 v xs.length (xs.map Value.string)) : InS w (fun k => base ≤ k ∧ k < w.heap.size) v xs := by
 obtain ⟨a, c, rfl, h1, h2, h3⟩ := rdS_of_own h
 refine ⟨a, c, rfl, h1, h2, fun hp => ?_⟩
 obtain ⟨b, o, rfl, hb, hc⟩ := h3 hp
 refine ⟨b, o, rfl, h.lt b rfl, fun i hi j hj => ?_⟩
 obtain rfl : j = 0 := by omega
 have h4 := hc i hi
 simp [h4]
theorem MoSt.push {W wr w7 : World} {g km : Nat} {mv zcv : Value} {xs : List Nat} (h : MoSt W wr g km mv zcv xs) (hkm : km ≤ W.heap.size) {O : Obj} {p cap m z : Nat} (hm : m = xs.length)
  (hown : w7.ownsRow (km + 1) 3 1 (.slice (some ⟨p, 0, none⟩) (m + 1) cap) (m + 1) (natsV xs ++ [.int .i64 (z : Int)])) (hg : (wr.alloc O).grownBy w7 mv.ownBlock) :
  MoSt W (w7.setCell ⟨km, 0, none⟩ (.slice (some ⟨p, 0, none⟩) (m + 1) cap)) g km (.slice (some ⟨p, 0, none⟩) (m + 1) cap) zcv (xs ++ [z]) := by
 subst hm
 have hsz := h.box.lt
 have hb : ∀ k, mv.ownBlock = some k → km + 1 ≤ k ∧ k < wr.heap.size := fun k hk => h.own.lt k hk
 refine ⟨?_, ?_, ?_⟩
 ·exact ((h.roll.alloc (by omega) O).grown hg (by rw [World.size_alloc]; omega) fun k hk => by have := hb k hk; omega).trans (Roll.of_below ((Below.refl km w7).setCell (p := ⟨km, 0, none⟩) (Nat.le_refl _) _) g)
 ·exact BoxN.set (BoxN.grown (BoxN.alloc h.box O) hg (fun e => by have := hb _ e.symm; omega)) 0 _
 ·rw [List.length_append, List.length_singleton, show natsV (xs ++ [z]) = natsV xs ++ [.int .i64 (z : Int)] by simp [natsV]]
  exact own_farB hown (by show km < km + 1; omega) _
theorem mo_app {W wr : World} {g km : Nat} {ma : Option Addr} {mc n z : Nat} {zcv : Value} {xs : List Nat} {ops : Array Oper} {rest : List Oper} {o : Oper} {a : Act} {Q : Exit → Act → World → Prop} (h : MoSt W wr g km (.slice ma n mc) zcv xs) (hn : n = xs.length) (hkm : km ≤ W.heap.size) (hb : n ≤ 1048600) (hgd : o.guard = none) (s x : Operand)
  (ho : o.op = .call { callee := .builtin .append, args := #[s, x], argTypes := #[34, 34] }) (hs : a.eval s = .slice ma n mc) (hx : a.eval x = .slice (some ⟨wr.heap.size, 0, none⟩) 1 1)
  (K : ∀ p cap w7, w7.cell? ⟨km, 0, none⟩ = some (.slice ma n mc) → w7.frozen? ⟨km, 0, none⟩ = false → MoSt W (w7.setCell ⟨km, 0, none⟩ (.slice (some ⟨p, 0, none⟩) (n + 1) cap)) g km (.slice (some ⟨p, 0, none⟩) (n + 1) cap) zcv (xs ++ [z]) →
   wpList Tryz.prog ops Q rest (a.put o.dst (.slice (some ⟨p, 0, none⟩) (n + 1) cap)) w7) : wpList Tryz.prog ops Q (o :: rest) a (wr.alloc (.cells #[.int .i64 (z : Int)] 3)) := by
 obtain ⟨i0, hi, hz0, hz1, hz2⟩ := info_parts info_int'
 have hlt := h.box.lt
 have hown := h.own
 rw [← hn] at hown
 refine wpList_append_form _ hgd s x 34 34 ho (km + 1) 3 3 i0 (.int .i64 0) 1 8 Tryz.underlying34 Tryz.underlying34 hi hz0 hz1 hz2 rfl (by decide) (.slice ma n mc) n (natsV xs) hs (hown.alloc _) (some ⟨wr.heap.size, 0, none⟩) 1 1 [.int .i64 (z : Int)] hx rfl (fun _ => ⟨_, rfl, cell_one_new _ _ _⟩) (by intro u hu; simp at hu; subst hu; rfl) (by omega) (by unfold maxLen; omega) (by omega) (by simp; omega) ?_
 intro p cap w7 h1 h2 h3 h4
 have hbx := BoxN.grown (BoxN.alloc h.box (.cells #[.int .i64 (z : Int)] 3)) h2 (fun e => by have := (hown.lt _ e.symm).1; omega)
 exact K p cap w7 (hbx.cell 0 rfl) (hbx.frozen 0) (h.push hkm hn h1 h2)
set_option maxRecDepth 100000 in
set_option maxHeartbeats 8000000 in
theorem law19_known (hsane : ∀ W : World, Tabs W → Fr.OneAt W → Calls Tryz.prog 18 #[] W (Ret W (.bool true))) (sa : Option Addr) (sn sc : Nat) (w : World) (hs : RdU w w.heap.size sa sn sc) (hT : Tabs w) (ho : Fr.OneAt w) :
  Calls Tryz.prog 4 #[.slice sa sn sc] w (Ret w (.bool true)) := by
 obtain ⟨i0, hi, hz0, hz1, hz2⟩ := info_parts info_int'
 have HS := hid hs
 have HSN := hid (hsane w hT ho)
 have HT := hid hT
 have HO := hid ho
 clear hs hT ho hsane
 go_enter Tryz.func4, Tryz.ntmps4
 generalize hLA : Code.loop _ = LA
 generalize hLB : Code.loop _ = LB
 go_wp2_with fail
 with_reducible refine HSN.out.mono ?_
 rintro e w1 ⟨rfl, hb1⟩
 have HB1 := hid hb1
 have HU1 := hid (rdU_laterB HS.out hb1)
 have hz1' := hb1.size
 clear hb1
 go_wp2_with fail
 with_reducible refine (mill_New sa sn sc _ HU1.out).mono ?_
 rintro e w2 ⟨rfl, hd2, hb2⟩
 have HD2 := hid hd2
 have HB2 := hid (HB1.out.trans (hb2.mono HB1.out.size))
 have hzg : w1.heap.size < w2.heap.size := hd2.lt
 clear hd2 hb2 HU1
 obtain ⟨g, hg⟩ : ∃ g, g = w1.heap.size := ⟨_, rfl⟩
 rw [← hg] at HD2 hz1' hzg ⊢
 clear hg
 have HIX := hid (dice_Index g w w2 HD2.out HT.out HB2.out hz1')
 go_wp2_with fail
 with_reducible refine HIX.out.mono ?_
 clear HIX
 rintro e w3 ⟨ts, ev, vv, lv, rfl, hok, hrx, hd3, hr3⟩
 have hB3 := HB2.out.trans (hr3.below (B' := w.heap.size) hz1' HB2.out.size)
 have HROK := hid (rolled_ok hok)
 have HRX := hid hrx
 have hz3 := hr3.size
 have HD3 := hid hd3
 have HB3 := hid hB3
 obtain ⟨ea, ec, rfl, -⟩ := id hrx.ents
 obtain ⟨va, vc, rfl, -⟩ := id hrx.vals
 obtain ⟨lf, ⟨la, lc, rfl, -⟩, -⟩ := id hrx.lists
 generalize cvsL ts = cs at *
 clear hok hrx hd3 hr3 hB3
 have HX4 := hid (BoxN.new w3 #[.slice ea (indexOf cs).ents.length ec, .slice va (indexOf cs).vals.length vc, .slice la (indexOf cs).lists.length lc] 30)
 have HB4 := hid (HB3.out.alloc HB3.out.size (.cells #[.slice ea (indexOf cs).ents.length ec, .slice va (indexOf cs).vals.length vc, .slice la (indexOf cs).lists.length lc] 30))
 have HD4 := hid (HD3.out.alloc (.cells #[.slice ea (indexOf cs).ents.length ec, .slice va (indexOf cs).vals.length vc, .slice la (indexOf cs).lists.length lc] 30))
 have HRX4 := hid (HRX.out.keep (w' := w3.alloc (.cells #[.slice ea (indexOf cs).ents.length ec, .slice va (indexOf cs).vals.length vc, .slice la (indexOf cs).lists.length lc] 30)) fun p hp => World.cell?_alloc_lt _ _ _ hp.2)
 have x0 := HX4.out.cell 0 rfl
 have x1 := HX4.out.cell 1 rfl
 have x2 := HX4.out.cell 2 rfl
 have hsz4 : w3.heap.size < (w3.alloc (.cells #[.slice ea (indexOf cs).ents.length ec, .slice va (indexOf cs).vals.length vc, .slice la (indexOf cs).lists.length lc] 30)).heap.size := HX4.out.lt
 have HQ := hid (law19_query g _ _ _ (indexOf cs) _ (w3.alloc (.cells #[.slice ea (indexOf cs).ents.length ec, .slice va (indexOf cs).vals.length vc, .slice la (indexOf cs).lists.length lc] 30)) HD4.out HRX4.out (fun k hk => ⟨Nat.lt_trans hk.2 hsz4, by have h5 := hk.1; omega⟩) HROK.out.2.1)
 go_wp2_with fail
 with_reducible refine HQ.out.mono ?_
 clear HQ x0 x1 x2
 obtain ⟨w4, hw4⟩ : ∃ V, V = w3.alloc (.cells #[.slice ea (indexOf cs).ents.length ec, .slice va (indexOf cs).vals.length vc, .slice la (indexOf cs).lists.length lc] 30) := ⟨_, rfl⟩
 rw [← hw4] at HX4 HB4 HRX4 hsz4 ⊢
 clear hw4 HD4
 rintro e w5 ⟨qa, qc, q, rfl, hown, hasc, hql, hd5, hr5⟩
 have HB5 := hid (HB4.out.trans (hr5.below (B' := w.heap.size) hz1' HB4.out.size))
 have HX5 := hid (show BoxN w5 w3.heap.size 30 #[.slice ea (indexOf cs).ents.length ec, .slice va (indexOf cs).vals.length vc, .slice la (indexOf cs).lists.length lc] from (hr5.block _ HX4.out.lt (by omega)).trans HX4.out)
 have HRX5 := hid (HRX4.out.keep (w' := w5) fun p hp => hr5.cell (p := p) (Nat.lt_trans hp.2 hsz4) (by have h5 := hp.1; omega))
 have HQ5 := hid hown
 have HASC := hid hasc
 have HD5 := hid hd5
 have hz45 := hr5.size
 have hgw4 : g < w4.heap.size := by omega
 have HX4L := hid (show w3.heap.size < w5.heap.size by have := HX4.out.lt; omega)
 clear hown hasc hd5 hr5 HX4 HB4 HRX4
 have HEL := hid (show (indexOf cs).ents.length = cs.length from ents_len cs)
 have HVL := hid (show (indexOf cs).vals.length = (setOfL (allOf cs)).length from rfl)
 have hvals := HROK.out.2.1
 have hmany := HROK.out.2.2
 have HCT := hid (law19_certificate g (indexOf cs).vals.length (indexOf cs).ents.length (indexOf cs).lists.length ea va la ec vc lc w5 HD5.out (by rw [HVL.out]; omega) (by rw [HEL.out]; omega))
 have x0 := HX5.out.cell 0 rfl
 have x1 := HX5.out.cell 1 rfl
 have x2 := HX5.out.cell 2 rfl
 go_wp2_with fail
 with_reducible refine HCT.out.mono ?_
 have hel := HEL.out
 have hvl := HVL.out
 rintro e w6 ⟨zlv, zcv, zs, ks, rfl, hzl, hzk, hzn, hkm, hcase, hd6, hr6⟩
 obtain ⟨za, zc, rfl, -⟩ := id hzl
 obtain ⟨ka, kc, rfl, -⟩ := id hzk
 have hz56 := hr6.size
 have HB6 := hid (HB5.out.trans (hr6.below (B' := w.heap.size) hz1' HB5.out.size))
 have HX6 := hid (show BoxN w6 w3.heap.size 30 #[.slice ea (indexOf cs).ents.length ec, .slice va (indexOf cs).vals.length vc, .slice la (indexOf cs).lists.length lc] from (hr6.block _ HX5.out.lt (by omega)).trans HX5.out)
 have HRX6 := hid ((HRX5.out.keep (w' := w6) fun p hp => hr6.cell (p := p) (by have := hp.2; omega) (by have h5 := hp.1; omega)).more (S' := fun k => g < k ∧ k < w6.heap.size) fun k hk => ⟨by have := hk.1; omega, by have := hk.2; omega⟩)
 have HQ6 := hid (own_roll HQ5.out hr6 (Nat.le_refl _) hgw4)
 have HZL6 := hid (InK.more hzl (S' := fun k => g < k ∧ k < w6.heap.size) fun k hk => ⟨by have := hk.1; omega, hk.2⟩)
 have HZK6 := hid (InK.more hzk (S' := fun k => g < k ∧ k < w6.heap.size) fun k hk => ⟨by have := hk.1; omega, hk.2⟩)
 have HD6 := hid hd6
 have HCASE := hid hcase
 rw [hel] at HX6 hkm
 rw [hvl] at HX6 hzn
 have hcase' := hcase
 rw [hel, hvl] at hcase'
 have HCASE := hid hcase'
 clear hcase hcase' hzl hzk hd6 hr6 x0 x1 x2 HD5 HX5 HRX5 HCT
 rw [hel, hvl] at HRX6 ⊢
 clear hel hvl HEL HVL
 obtain ⟨nv, hnv⟩ : ∃ n, n = (setOfL (allOf cs)).length := ⟨_, rfl⟩
 have HNV := hid hnv
 rw [← hnv] at HX6 HCASE hzn hvals HRX6 ⊢
 generalize (indexOf cs).lists.length = nl at *
 have HVC := hid (fun W (hW : Below w6.heap.size w6 W) => over_valid cs (.slice ea cs.length ec) (.slice va nv vc) (.slice la nl lc) ⟨_, _, rfl⟩ ⟨_, _, by rw [← hnv]⟩ ⟨_, _, _, rfl⟩ (.slice za zs.length zc) (.slice ka ks.length kc) zs ks W
  (InK.more (InK.keep HZL6.out fun p hp => hW.cell (p := p) hp.2) fun k hk => Nat.lt_of_lt_of_le hk.2 hW.size) (InK.more (InK.keep HZK6.out fun p hp => hW.cell (p := p) hp.2) fun k hk => Nat.lt_of_lt_of_le hk.2 hW.size) (by omega) (by omega))
 rw [← hnv] at HVC
 clear hnv
 have HKC := hid (BoxN.new w6 #[.slice za zs.length zc, .slice ka ks.length kc] 36)
 have HB67 := hid ((Below.refl w6.heap.size w6).alloc (Nat.le_refl _) (.cells #[.slice za zs.length zc, .slice ka ks.length kc] 36))
 have HX7 := hid (HX6.out.below HB67.out HX6.out.lt)
 have x0 := HX7.out.cell 0 rfl
 have x1 := HX7.out.cell 1 rfl
 have x2 := HX7.out.cell 2 rfl
 have y0 := HKC.out.cell 0 rfl
 have y1 := HKC.out.cell 1 rfl
 go_wp2_with fail
 with_reducible refine (HVC.out _ HB67.out).mono ?_
 clear x0 x1 x2 y0 y1
 obtain ⟨kc2, hkc2⟩ : ∃ k, k = w6.heap.size := ⟨_, rfl⟩
 obtain ⟨w7, hw7⟩ : ∃ V, V = w6.alloc (.cells #[.slice za zs.length zc, .slice ka ks.length kc] 36) := ⟨_, rfl⟩
 rw [← hw7] at HKC HB67 HX7 ⊢
 rw [← hkc2] at HKC ⊢
 have HKC2 := hid hkc2
 clear hw7 hkc2
 rintro e w8 ⟨rfl, hb8⟩
 have HB68 := hid (HB67.out.trans (hb8.mono HB67.out.size))
 have HB8 := hid (HB6.out.trans (HB68.out.mono HB6.out.size))
 have HX8 := hid (HX7.out.below hb8 HX7.out.lt)
 have HKC8 := hid (HKC.out.below hb8 HKC.out.lt)
 have hz78 := hb8.size
 have hz67' : w6.heap.size < w7.heap.size := by have := HKC.out.lt; have := HKC2.out; omega
 clear hb8 HKC HX7
 rcases HCASE.out with ⟨L, K, rfl, rfl, hLu, hKu, hLm, hKm⟩ | hbad
 rotate_left
 ·rw [hbad]
  go_wp2
  go_ret
  exact ⟨rfl, HB8.out⟩
 have hgood : (numB (L.map fun x : Nat => (x : Int)) (nv : Int) && numB (K.map fun x : Nat => (x : Int)) (cs.length : Int)) = true := by rw [num_ok hLu hLm, num_ok hKu hKm]; rfl
 rw [hgood]
 have HLN := hid (inN_of_z HZL6.out)
 have HKN := hid (inN_of_z HZK6.out)
 have HLU := hid hLu
 have HKU := hid hKu
 have HLM := hid hLm
 have HKM := hid hKm
 rw [List.length_map] at HLN HKN hzn hkm
 rw [List.length_map, List.length_map] at HKC8 ⊢
 clear hgood hLu hKu hLm hKm HCASE HVC HZL6 HZK6
 have HKM9 := hid (BoxN.new w8 #[.slice za L.length zc, .slice ka K.length kc] 36)
 have HB89 := hid ((Below.refl w8.heap.size w8).alloc (Nat.le_refl _) (.cells #[.slice za L.length zc, .slice ka K.length kc] 36))
 have HX9 := hid (HX8.out.below HB89.out HX8.out.lt)
 have y0 := HKC8.out.cell 0 rfl
 have y1 := HKC8.out.cell 1 rfl
 go_upto_region 10 with fail
 clear y0 y1
 obtain ⟨km, hkme⟩ : ∃ k, k = w8.heap.size := ⟨_, rfl⟩
 obtain ⟨w9, hw9⟩ : ∃ V, V = w8.alloc (.cells #[.slice za L.length zc, .slice ka K.length kc] 36) := ⟨_, rfl⟩
 rw [← hw9] at HKM9 HB89 HX9 ⊢
 rw [← hkme] at HKM9 ⊢
 have HKC9 := hid (HKC8.out.below HB89.out HKC8.out.lt)
 have HB69 := hid (HB68.out.trans (HB89.out.mono HB68.out.size))
 have HB9 := hid (HB6.out.trans (HB69.out.mono HB6.out.size))
 have HD9 := hid (HD6.out.below HB69.out (by omega))
 have hkm9 : km < w9.heap.size := HKM9.out.lt
 have hgkm : g < km := by omega
 have hk3 : w3.heap.size < km := by have := HX6.out.lt; omega
 have hkck : kc2 < km := by have := HKC8.out.lt; omega
 have hw6k : w6.heap.size ≤ km := by omega
 have hwkm : w.heap.size ≤ g := hz1'
 have HKE := hid hkme
 clear hw9 hkme HKC8 HX8 HX6 HD6
 have x1 := HX9.out.cell 1 rfl
 go_upto_if 38 with fail
 clear x1
 go_cut [11] from 18 (fun _ wx => ∃ (M : List Nat) (ma : Option Addr) (mc : Nat), Hid (Roll km g w9 wx) ∧ Hid (BoxN wx km 36 #[.slice ma M.length mc, .slice ka K.length kc]) ∧ Hid (InN wx (· < wx.heap.size) (.slice ma M.length mc) M) ∧ Hid (M.Pairwise (· < ·)) ∧ Hid (∀ x ∈ M, x < nv) ∧ Hid (∀ x ∈ L, x ∈ M) ∧ M.length ≤ 1048576)
 case first =>
  by_cases hnv0 : nv = 0
  ·have hnz : ¬ (0 : Int) < (nv : Int) := by omega
   have hnd : decide (0 < nv) = false := decide_eq_false (by omega)
   have HZW := hid (show km < w9.heap.size from hkm9)
   go_wp2_with fail
   go_meet
   exact ⟨L, za, zc, hid (Roll.refl _ _ _), HKM9, hid (InK.more (InK.keep HLN.out fun p hp => HB69.out.cell (p := p) hp.2) fun b hb => (by have := HB69.out.size; omega : b < w9.heap.size)), HLU, HLM, hid (fun x hx => hx), by omega⟩
  ·have hnz : (0 : Int) < (nv : Int) := by omega
   have hnd : decide (0 < nv) = true := decide_eq_true (by omega)
   have hkm9' : km ≤ w9.heap.size := by omega
   have HPK := hid (dice_Pick g (nv : Int) w9 HD9.out (by omega) (by omega))
   have x1 := HX9.out.cell 1 rfl
   go_wp2_with fail
   with_reducible refine HPK.out.mono ?_
   rintro e w10 ⟨i, rfl, hin, hd10, hr10, hs10⟩
   have hin' : i < nv := by omega
   have HR10 := hid (hr10.mono hkm9')
   have HK10 := hid (show BoxN w10 km 36 #[.slice za L.length zc, .slice ka K.length kc] from (hr10.block _ hkm9 (by omega)).trans HKM9.out)
   have HC10 := hid (show BoxN w10 kc2 36 #[.slice za L.length zc, .slice ka K.length kc] from (hr10.block _ (by omega) (by have := HKE.out; have := HKC2.out; omega)).trans HKC9.out)
   have HS0 := hid (show MoSt w9 (w10.setCell ⟨km, 0, none⟩ (.slice none 0 0)) g km (.slice none 0 ([] : List Nat).length) (.slice ka K.length kc) [] from
    ⟨HR10.out.trans (Roll.of_below ((Below.refl km w10).setCell (p := ⟨km, 0, none⟩) (Nat.le_refl _) _) g), BoxN.set HK10.out 0 _, World.ownsRow_nil _ _ _ _⟩)
   have HC0 := hid (BoxN.other HC10.out (p := ⟨km, 0, none⟩) (by show km ≠ kc2; omega) (.slice none 0 0))
   have y0 := HK10.out.cell 0 rfl
   have f0 := HK10.out.frozen 0
   clear x1 hd10 hr10 HPK
   go_upto_region 14 with fail
   clear y0 f0 HK10 HC10
   generalize w10.setCell ⟨km, 0, none⟩ (.slice none 0 0) = w11 at *
   have HLR := hid (fun W p (hW : Roll km g w9 W) (hp : p < L.length) => (by
    obtain ⟨a, c, e, -, -, h3⟩ := HLN.out
    obtain ⟨b, o, e2, hb, hc⟩ := h3 (by omega)
    have h4 := hc p hp 0 (by omega)
    have h5 := (hW.cell (p := ⟨b, o + p, none⟩) (by show b < km; omega) (by show b ≠ g; omega)).trans ((HB69.out.cell (p := ⟨b, o + p, none⟩) hb.2).trans (by simpa using h4))
    exact ⟨b, o, (Value.slice.inj e).1.trans e2, by rw [h5]; rfl⟩ : ∃ b o, za = some ⟨b, o, none⟩ ∧ W.cell? ⟨b, o + p, none⟩ = some (.int .i64 ((L.getD p 0 : Nat) : Int))))
   have z0 := HC0.out.cell 0 rfl
   go_wp2_with fail
   subst hLA
   clear z0
   have HSTEP := hid (fun p (hp : p < L.length) => insP_step HLU.out i hp)
   have HLL := hid (show L.length ≤ 1048576 by omega)
   go_loopg [48, 9] L.length (fun Q ix d wr => ∃ (p : Nat) (xs : List Nat) (m : Nat) (ma0 : Option Addr) (mc0 : Nat) (dn : Bool), ix = .int .i64 (p : Int) ∧ p + Q = L.length ∧ d = .bool dn ∧ Hid (insP L i p = (xs, dn)) ∧ m ≤ p + dn.toNat ∧ Hid (m = xs.length) ∧ Hid (MoSt w9 wr g km (.slice ma0 m mc0) (.slice ka K.length kc) xs))
   case atStart => exact ⟨0, [], 0, none, 0, false, rfl, by omega, rfl, hid (insP_zero L i), by simp, hid rfl, HS0⟩
   case round =>
    obtain ⟨p, xs, m, ma0, mc0, dn, rfl, hp0, rfl, HIP, hxl, HN, HS⟩ := hrel
    have hpL : p ≤ L.length := by omega
    have hdn1 : dn.toNat ≤ 1 := Bool.toNat_le dn
    by_cases hp : 0 < gk
    ·have hpl : p < L.length := by omega
     have hpi : (p : Int) < (L.length : Int) := by omega
     obtain ⟨b, o, rfl, k0⟩ := HLR.out wr p HS.out.roll hpl
     have hst := HSTEP.out p hpl
     rw [HIP.out] at hst
     generalize L.getD p 0 = n at *
     simp only at hst
     have HST := hid hst
     clear hst
     by_cases hA : i ≤ n
     ·have hAi : (i : Int) ≤ (n : Int) := by omega
      have hAd : decide (i ≤ n) = true := decide_eq_true hA
      cases dn with
      | false =>
       have y0 := HS.out.box.cell 0 rfl
       have hkba : m ≤ 1048600 := by omega
       go_upto_region 19 with (at_builtin; refine mo_app (z := i) HS.out HN.out hkm9' hkba rfl (.tmp 60) (.tmp 62) rfl rfl rfl ?_; intro ga capa w7a y0 f0 hsta; have HSTa := hid hsta; clear hsta)
       clear y0 f0
       have HNa := hid (show m + 1 = (xs ++ [i]).length by rw [List.length_append, List.length_singleton, ← HN.out])
       generalize w7a.setCell ⟨km, 0, none⟩ (.slice (some ⟨ga, 0, none⟩) (m + 1) capa) = w8a at *
       clear k0
       by_cases hB : n = i
       ·have hBi : ((n : Int) == (i : Int)) = true := by rw [beq_iff_eq]; omega
        have hBj : (n : Int) = (i : Int) := by omega
        go_wp2_with fail
        go_roundg (gk - 1)
        case rel => exact ⟨p + 1, (xs ++ [i]), (m + 1), (some ⟨ga, 0, none⟩), capa, true, by go_num, by omega, rfl, hid (by rw [HST.out, if_pos (show i ≤ n ∧ True from ⟨hA, trivial⟩), hAd]; simp only [Bool.false_or]; rw [if_pos hB]), by (try simp only [Bool.toNat_true, Bool.toNat_false] at hxl ⊢); omega, HNa, HSTa⟩
        case measure => omega
       ·have hBi : ((n : Int) == (i : Int)) = false := by rw [beq_eq_false_iff_ne]; omega
        have hBj : ¬ (n : Int) = (i : Int) := by omega
        have y0 := HSTa.out.box.cell 0 rfl
        have hkbb1 : (m + 1) ≤ 1048600 := by omega
        go_upto_region 21 with (at_builtin; refine mo_app (z := n) HSTa.out HNa.out hkm9' hkbb1 rfl (.tmp 69) (.tmp 71) rfl rfl rfl ?_; intro gb1 capb1 w7b1 y0 f0 hstb1; have HSTb1 := hid hstb1; clear hstb1)
        clear y0 f0
        have HNb1 := hid (show (m + 1) + 1 = ((xs ++ [i]) ++ [n]).length by rw [List.length_append, List.length_singleton, ← HNa.out])
        generalize w7b1.setCell ⟨km, 0, none⟩ (.slice (some ⟨gb1, 0, none⟩) ((m + 1) + 1) capb1) = w8b1 at *
        go_wp2_with fail
        go_roundg (gk - 1)
        case rel => exact ⟨p + 1, (xs ++ [i]) ++ [n], (m + 1) + 1, (some ⟨gb1, 0, none⟩), capb1, true, by go_num, by omega, rfl, hid (by rw [HST.out, if_pos (show i ≤ n ∧ True from ⟨hA, trivial⟩), hAd]; simp only [Bool.false_or]; rw [if_neg hB]), by (try simp only [Bool.toNat_true, Bool.toNat_false] at hxl ⊢); omega, HNb1, HSTb1⟩
        case measure => omega
      | true =>
       go_upto_region 19 with fail
       clear k0
       by_cases hB : n = i
       ·have hBi : ((n : Int) == (i : Int)) = true := by rw [beq_iff_eq]; omega
        have hBj : (n : Int) = (i : Int) := by omega
        go_wp2_with fail
        go_roundg (gk - 1)
        case rel => exact ⟨p + 1, xs, m, ma0, mc0, true, by go_num, by omega, rfl, hid (by rw [HST.out, if_neg (show ¬ (i ≤ n ∧ true = false) from by simp), hAd]; simp only [Bool.or_true]; rw [if_pos hB]), by (try simp only [Bool.toNat_true, Bool.toNat_false] at hxl ⊢); omega, HN, HS⟩
        case measure => omega
       ·have hBi : ((n : Int) == (i : Int)) = false := by rw [beq_eq_false_iff_ne]; omega
        have hBj : ¬ (n : Int) = (i : Int) := by omega
        have y0 := HS.out.box.cell 0 rfl
        have hkbb2 : m ≤ 1048600 := by omega
        go_upto_region 21 with (at_builtin; refine mo_app (z := n) HS.out HN.out hkm9' hkbb2 rfl (.tmp 69) (.tmp 71) rfl rfl rfl ?_; intro gb2 capb2 w7b2 y0 f0 hstb2; have HSTb2 := hid hstb2; clear hstb2)
        clear y0 f0
        have HNb2 := hid (show m + 1 = (xs ++ [n]).length by rw [List.length_append, List.length_singleton, ← HN.out])
        generalize w7b2.setCell ⟨km, 0, none⟩ (.slice (some ⟨gb2, 0, none⟩) (m + 1) capb2) = w8b2 at *
        go_wp2_with fail
        go_roundg (gk - 1)
        case rel => exact ⟨p + 1, xs ++ [n], m + 1, (some ⟨gb2, 0, none⟩), capb2, true, by go_num, by omega, rfl, hid (by rw [HST.out, if_neg (show ¬ (i ≤ n ∧ true = false) from by simp), hAd]; simp only [Bool.or_true]; rw [if_neg hB]), by (try simp only [Bool.toNat_true, Bool.toNat_false] at hxl ⊢); omega, HNb2, HSTb2⟩
        case measure => omega
     ·have hAi : ¬ (i : Int) ≤ (n : Int) := by omega
      have hAd : decide (i ≤ n) = false := decide_eq_false hA
      go_upto_region 19 with fail
      clear k0
      by_cases hB : n = i
      ·have hBi : ((n : Int) == (i : Int)) = true := by rw [beq_iff_eq]; omega
       have hBj : (n : Int) = (i : Int) := by omega
       go_wp2_with fail
       go_roundg (gk - 1)
       case rel => exact ⟨p + 1, xs, m, ma0, mc0, dn, by go_num, by omega, rfl, hid (by rw [HST.out, if_neg (show ¬ (i ≤ n ∧ dn = false) from fun h => hA h.1), hAd]; simp only [Bool.or_false]; rw [if_pos hB]), by (try simp only [Bool.toNat_true, Bool.toNat_false] at hxl ⊢); omega, HN, HS⟩
       case measure => omega
      ·have hBi : ((n : Int) == (i : Int)) = false := by rw [beq_eq_false_iff_ne]; omega
       have hBj : ¬ (n : Int) = (i : Int) := by omega
       have y0 := HS.out.box.cell 0 rfl
       have hkbb3 : m ≤ 1048600 := by omega
       go_upto_region 21 with (at_builtin; refine mo_app (z := n) HS.out HN.out hkm9' hkbb3 rfl (.tmp 69) (.tmp 71) rfl rfl rfl ?_; intro gb3 capb3 w7b3 y0 f0 hstb3; have HSTb3 := hid hstb3; clear hstb3)
       clear y0 f0
       have HNb3 := hid (show m + 1 = (xs ++ [n]).length by rw [List.length_append, List.length_singleton, ← HN.out])
       generalize w7b3.setCell ⟨km, 0, none⟩ (.slice (some ⟨gb3, 0, none⟩) (m + 1) capb3) = w8b3 at *
       go_wp2_with fail
       go_roundg (gk - 1)
       case rel => exact ⟨p + 1, xs ++ [n], m + 1, (some ⟨gb3, 0, none⟩), capb3, dn, by go_num, by omega, rfl, hid (by rw [HST.out, if_neg (show ¬ (i ≤ n ∧ dn = false) from fun h => hA h.1), hAd]; simp only [Bool.or_false]; rw [if_neg hB]), by (try simp only [Bool.toNat_true, Bool.toNat_false] at hxl ⊢); omega, HNb3, HSTb3⟩
       case measure => omega
    ·obtain rfl : gk = 0 := by omega
     have hpe : p = L.length := by omega
     have hpi : ¬ (p : Int) < (L.length : Int) := by omega
     have hpd : decide (p < L.length) = false := decide_eq_false (by omega)
     have hend := insP_end (L := L) (i := i)
     rw [← hpe, HIP.out] at hend
     have HEND := hid hend
     have hins : ∀ x ∈ insL L i, x < nv := fun x hx => by
      rcases insL_mem hx with h | h
      ·exact HLM.out x h
      ·omega
     have HINS := hid hins
     have hinl : (insL L i).length ≤ L.length + 1 := by
      have h1 := nodup_leB (l := insL L i) (m := i :: L) ((insL_asc HLU.out i).imp fun h => by omega) (fun x hx => by
       rcases insL_mem hx with h | h
       ·exact List.mem_cons.2 (.inr h)
       ·exact List.mem_cons.2 (.inl h))
      simpa using h1
     clear hend hins hpe
     cases dn with
     | true =>
      have hxs : xs = insL L i := by have h := HEND.out; simpa using h
      subst hxs
      have hs9 := HS.out
      rw [HN.out] at hs9
      have HS := hid hs9
      clear hs9
      go_wp2_with fail
      go_meet
      exact ⟨insL L i, ma0, mc0, hid HS.out.roll, hid HS.out.box, hid (InK.more (own_in HS.out.own rfl) fun b hb => hb.2), hid (insL_asc HLU.out i), HINS, hid insL_sub, by omega⟩
     | false =>
      have hxs : xs ++ [i] = insL L i := by have h := HEND.out; simpa using h
      have HXS := hid hxs
      clear hxs
      have y0 := HS.out.box.cell 0 rfl
      have hkbc : m ≤ 1048600 := by omega
      go_wp2_with (at_builtin; refine mo_app (z := i) HS.out HN.out hkm9' hkbc rfl (.tmp 78) (.tmp 80) rfl rfl rfl ?_; intro gc capc w7c y0 f0 hstc; have HSTc := hid hstc; clear hstc)
      clear y0 f0
      have HNc := hid (show m + 1 = (xs ++ [i]).length by rw [List.length_append, List.length_singleton, ← HN.out])
      generalize w7c.setCell ⟨km, 0, none⟩ (.slice (some ⟨gc, 0, none⟩) (m + 1) capc) = w8c at *
      rw [HXS.out] at HSTc HNc
      rw [HNc.out] at HSTc
      go_meet
      exact ⟨insL L i, _, _, hid HSTc.out.roll, hid HSTc.out.box, hid (InK.more (own_in HSTc.out.own rfl) fun b hb => hb.2), hid (insL_asc HLU.out i), HINS, hid insL_sub, by omega⟩
 case rest =>
  obtain ⟨M, ma, mc, HRX, HKMX, HMN, HMU, HMV, HLM2, hml⟩ := hcut
  have hg3 : g < w3.heap.size := by omega
  have hkx := HKMX.out.lt
  have HWX := hid (HB9.out.trans (HRX.out.below (B' := w.heap.size) (by omega) (by omega)))
  have HKP := hid (fun (S : Nat → Prop) (v : Value) (n k : Nat) (f : Nat → Nat → Value) (h : InK k w6 (fun b => g < b ∧ b < w6.heap.size) v n f) => (show InK k wc (· < wc.heap.size) v n f from
   InK.more (InK.keep (InK.keep h fun p hp => HB69.out.cell (p := p) hp.2) fun p (hp : g < p.block ∧ p.block < w6.heap.size) => HRX.out.cell (p := p) (by omega) (by omega)) fun b hb => (by omega : b < wc.heap.size)))
  have HRDX := hid (((HRX6.out.keep (w' := w9) fun p hp => HB69.out.cell (p := p) hp.2).keep (w' := wc) (fun p (hp : g < p.block ∧ p.block < w6.heap.size) => HRX.out.cell (p := p) (by omega) (by omega))).more (S' := fun b => b < wc.heap.size) fun b hb => (by omega : b < wc.heap.size))
  have HQX := hid (InS.rds (HKP.out (fun _ => True) _ _ _ _ (InK.more (rdS_S HQ6.out) fun b hb => ⟨by have := hb.1; omega, hb.2⟩)) fun b hb => hb)
  have HINX := hid (show SrcIn wc cs q (.slice ea cs.length ec) (.slice va nv vc) (.slice la nl lc) (.slice qa q.length qc) from ⟨HROK.out.1, HRDX.out, HQX.out, HASC.out, by omega⟩)
  have HCL := hid (show CertR wc cs (.slice za L.length zc) (.slice ka K.length kc) L K from ⟨HKP.out (fun _ => True) _ _ _ _ HLN.out, HKP.out (fun _ => True) _ _ _ _ HKN.out, HLU.out, HKU.out, by rw [← HNV.out]; exact HLM.out, HKM.out, by omega⟩)
  have HCM := hid (show CertR wc cs (.slice ma M.length mc) (.slice ka K.length kc) M K from ⟨HMN.out, HKP.out (fun _ => True) _ _ _ _ HKN.out, HMU.out, HKU.out, by rw [← HNV.out]; exact HMV.out, HKM.out, hml⟩)
  have HXX := hid (show BoxN wc w3.heap.size 30 #[.slice ea cs.length ec, .slice va nv vc, .slice la nl lc] from (HRX.out.block _ hk3 (by omega)).trans HX9.out)
  have HKCX := hid (show BoxN wc kc2 36 #[.slice za L.length zc, .slice ka K.length kc] from (HRX.out.block _ hkck (by have := HKE.out; have := HKC2.out; omega)).trans HKC9.out)
  have HBL := hid (fun c => bnd_le (cs := cs) (q := q) (L := L) (K := K) (asc_nodupB HASC.out) c)
  have HBM := hid (fun c => bnd_le (cs := cs) (q := q) (L := M) (K := K) (asc_nodupB HASC.out) c)
  have HBB := hid (fun c => bnd_more (cs := cs) (q := q) (K := K) HLM2.out c)
  have HVE := hid (fun W (hW : Below wc.heap.size wc W) => over_valid cs (.slice ea cs.length ec) (.slice va nv vc) (.slice la nl lc) ⟨_, _, rfl⟩ ⟨_, _, by rw [← HNV.out]⟩ ⟨_, _, _, rfl⟩ (.slice ma M.length mc) (.slice ka K.length kc) (M.map fun x : Nat => (x : Int)) (K.map fun x : Nat => (x : Int)) W
   (HCM.out.later hW).rl.z (HCM.out.later hW).rk.z (by rw [List.length_map]; omega) (by rw [List.length_map]; omega))
  rw [← HNV.out, num_ok HMU.out HMV.out, num_ok HKU.out HKM.out] at HVE
  have HCO := hid (fun W c (hW : Below wc.heap.size wc W) (hc : c < cs.length) => over_Count (HINX.out.later hW) c hc)
  have HBO := hid (fun W c (hW : Below wc.heap.size wc W) (hc : c < cs.length) => over_Bounds (HINX.out.later hW) (HCL.out.later hW) c hc)
  have HBP := hid (fun W c (hW : Below wc.heap.size wc W) (hc : c < cs.length) => over_Bounds (HINX.out.later hW) (HCM.out.later hW) c hc)
  have x0 := HXX.out.cell 0 rfl
  clear HKP HRDX HQX HINX HCL HCM HRX6 HQ6 HLN HKN HRX HB69 HB9 HB67 HB68 HB89 HKC9 HX9 HD9 HKM9 HMN HMU HMV
  go_wp2_with fail
  subst hLB
  clear x0
  go_loopg [86] cs.length (fun Q i wr => ∃ p : Nat, i = .int .i64 (p : Int) ∧ p + Q = cs.length ∧ Hid (Below wc.heap.size wc wr))
  case atStart => exact ⟨0, rfl, by omega, hid (Below.refl _ _)⟩
  case round =>
   obtain ⟨p, rfl, hp0, HBR⟩ := hrel
   by_cases hp : 0 < gk
   ·have hpl : p < cs.length := by omega
    have hpi : (p : Int) < (cs.length : Int) := by omega
    have HQC := hid (fun W (hW : Below wc.heap.size wc W) => HCO.out W p hW hpl)
    have HBC := hid (fun W (hW : Below wc.heap.size wc W) => HBO.out W p hW hpl)
    have HMC := hid (fun W (hW : Below wc.heap.size wc W) => HBP.out W p hW hpl)
    obtain ⟨-, -, -, -, hl1, hl2⟩ := HBL.out p
    obtain ⟨-, -, -, -, hm1, hm2⟩ := HBM.out p
    obtain ⟨hb1, hb2⟩ := HBB.out p
    generalize bndB cs q L K p = RL at *
    generalize bndB cs q M K p = RM at *
    obtain ⟨lo, hi'⟩ := RL
    obtain ⟨uu, vv⟩ := RM
    simp only at hl1 hl2 hm1 hm2 hb1 hb2 HBC HMC
    generalize comC cs q p = n at *
    have hd1 : decide (n < lo) = false := decide_eq_false (by omega)
    have hd2 : decide (hi' < n) = false := decide_eq_false (by omega)
    have hd3 : decide (uu < lo) = false := decide_eq_false (by omega)
    have hd4 : decide (hi' < vv) = false := decide_eq_false (by omega)
    have hd5 : decide (n < uu) = false := decide_eq_false (by omega)
    have hd6 : decide (vv < n) = false := decide_eq_false (by omega)
    have hx := HXX.out.below HBR.out HXX.out.lt
    have x0 := hx.cell 0 rfl
    have x1 := hx.cell 1 rfl
    have x2 := hx.cell 2 rfl
    clear hx
    go_wp2_with fail
    with_reducible refine (HQC.out _ HBR.out).mono ?_
    rintro e w11 ⟨rfl, hb11⟩
    have HB11 := hid (HBR.out.trans (hb11.mono HBR.out.size))
    clear x0 x1 x2 hb11
    have hx := HXX.out.below HB11.out HXX.out.lt
    have x0 := hx.cell 0 rfl
    have x1 := hx.cell 1 rfl
    have x2 := hx.cell 2 rfl
    have hy := HKCX.out.below HB11.out HKCX.out.lt
    have y0 := hy.cell 0 rfl
    have y1 := hy.cell 1 rfl
    clear hx hy
    go_wp2_with fail
    with_reducible refine (HBC.out _ HB11.out).mono ?_
    rintro e w12 ⟨rfl, hb12⟩
    have HB12 := hid (HB11.out.trans (hb12.mono HB11.out.size))
    clear x0 x1 x2 y0 y1 hb12
    have hx := HXX.out.below HB12.out HXX.out.lt
    have x0 := hx.cell 0 rfl
    have x1 := hx.cell 1 rfl
    have x2 := hx.cell 2 rfl
    have hy := HKMX.out.below HB12.out HKMX.out.lt
    have y0 := hy.cell 0 rfl
    have y1 := hy.cell 1 rfl
    clear hx hy
    go_wp2_with fail
    with_reducible refine (HMC.out _ HB12.out).mono ?_
    rintro e w13 ⟨rfl, hb13⟩
    have HB13 := hid (HB12.out.trans (hb13.mono HB12.out.size))
    clear x0 x1 x2 y0 y1 hb13
    go_wp2_with fail
    go_roundg (gk - 1)
    case rel => exact ⟨p + 1, by go_num, by omega, HB13⟩
    case measure => omega
   ·obtain rfl : gk = 0 := by omega
    obtain rfl : p = cs.length := by omega
    have hx := HXX.out.below HBR.out HXX.out.lt
    have x0 := hx.cell 0 rfl
    have x1 := hx.cell 1 rfl
    have x2 := hx.cell 2 rfl
    have hy := HKMX.out.below HBR.out HKMX.out.lt
    have y0 := hy.cell 0 rfl
    have y1 := hy.cell 1 rfl
    clear hx hy
    have HWR := hid (HWX.out.trans (HBR.out.mono HWX.out.size))
    go_wp2_with fail
    with_reducible refine (HVE.out _ HBR.out).mono ?_
    rintro e w14 ⟨rfl, hb14⟩
    have HW14 := hid (HWR.out.trans (hb14.mono HWR.out.size))
    clear hb14
    go_wp2
    go_ret
    exact ⟨rfl, HW14.out⟩
end Go.Proofs.YtikiimlmoalbcaaGreatDoor

namespace Go.Proofs.YtikiimlmoalbcaaGreatDoor
open Go.RowKit
theorem law19_knownS (sa : Option Addr) (sn sc : Nat) (w : World) (hs : RdU w w.heap.size sa sn sc) (hT : Tabs w) (ho : Fr.OneAt w) :
  Calls Tryz.prog 4 #[.slice sa sn sc] w (Ret w (.bool true)) :=
 law19_known (fun W _ ho => law19_sane W ho) sa sn sc w hs hT ho
end Go.Proofs.YtikiimlmoalbcaaGreatDoor

namespace Go.Proofs.YtikiimlmoalbcaaGreatDoor
open Go.ChangeShapes Go.WideShapes Go.ChangeAt Go.RowKit Go.Lib
set_option linter.unusedVariables false
theorem kOwn : ownKnob Tryz.prog.godebug = none := by kernel_rfl
theorem kLaid : laidOutB Tryz.prog = true := by kernel_rfl
theorem kCells : Tryz.prog.cellsOf 5 = 1 := by kernel_rfl
noncomputable def laidWorld (os : Os) : World :=
 let w0 := World.doorLaid Tryz.prog 400 os
 { w0 with heap := w0.heap.modify 2 fun
   | .cells _ t frozen => .cells (Lib.firstTab.map fun z => Value.int .u8 z).toArray t frozen
   | o => o }
theorem tabs_of {l : List (String × DataW Unit)} {W : World} (h : laidMet Tryz.prog l W) (h1 : ("unicode/utf8.first", Rows.laid_unicode_utf8_first) ∈ l) (h2 : ("unicode/utf8.acceptRanges", Rows.laid_unicode_utf8_acceptRanges) ∈ l) : Tabs W := by
 have e1 : (Rows.laid_unicode_utf8_first : DataW Unit) = Lib.firstData := Go.Pinned.utf8First_eq
 have e2 : (Rows.laid_unicode_utf8_acceptRanges : DataW Unit) = Lib.acceptData := by kernel_rfl
 have r1 := Lib.laidMet.reads h h1
 have r2 := Lib.laidMet.reads h h2
 rw [e1] at r1
 rw [e2] at r2
 exact utf8Tabs_of_readsT (U8Types.of196 Tryz.layValid) ⟨by kernel_rfl, by kernel_rfl, by kernel_rfl, by kernel_rfl, by kernel_rfl, by kernel_rfl, by kernel_rfl⟩ r1 r2
theorem rdU_of {W : World} {a : Addr} {len cap : Nat} {zs : List Int} (hl : len ≤ cap) (hm : cap ≤ maxLen) (hz : zs.length = cap) (hcell : ∀ i, i < zs.length → W.cell? (a.add i) = some (.int .u8 (zs.getD i 0))) (hw : ∀ n ∈ zs, (Lit.int .u8 n).wf = true) :
  RdU W W.heap.size (some a) len cap := by
 refine ⟨hl, hm, fun hp => ?_⟩
 obtain ⟨b, o, spot⟩ := a
 have hspot : spot = none := by simpa [Addr.add] using World.cell?_spot (hcell 0 (by omega))
 subst hspot
 have hlt : b < W.heap.size := by
  have h := hcell 0 (by omega)
  exact World.block_lt_of_cell? W (Addr.add ⟨b, o, none⟩ 0) h
 refine ⟨b, o, rfl, hlt, fun i hi => ?_⟩
 have hi' : i < zs.length := by omega
 have hb := bounds_u8 (hw (zs.getD i 0) (by simp [List.getD, hi']))
 refine ⟨(zs.getD i 0).toNat, by omega, ?_⟩
 rw [show (((zs.getD i 0).toNat : Nat) : Int) = zs.getD i 0 from by omega, ← Addr.add_lit]
 exact hcell i hi'
end Go.Proofs.YtikiimlmoalbcaaGreatDoor

namespace Go.Proofs.YtikiimlmoalbcaaGreatDoor
open Go.ChangeShapes Go.RowKit Go.Lib
theorem one_named : Tryz.prog.globalNamed "tablefinder/fraction.one" = some 0 := by kernel_rfl
theorem one_type : (Tryz.prog.globals[(0 : Nat)]?).map (·.type) = some 163 := by kernel_rfl
theorem kCells32 : Tryz.prog.cellsOf 132 = 1 := by kernel_rfl
theorem one_var {W : World} {cs : Array Value} {v : Value} (h : W.var? Tryz.prog "tablefinder/fraction.one" = some cs) (hc : cs.toList = [v]) : W.cell? ⟨0, 0, none⟩ = some v := by
 unfold World.var? at h
 rw [one_named] at h
 simp only [Option.bind_some] at h
 split at h
 ·rename_i c t fr hb
  obtain rfl := Option.some.inj h
  have e : c = #[v] := by cases c; simp_all
  subst e
  simp [World.cell?, hb]
 ·cases h
theorem one_of {l : List (String × DataW Unit)} {W : World} (h : laidMet Tryz.prog l W) (h1 : ("tablefinder/fraction.one", Rows.laid_tablefinder_fraction_one) ∈ l) : Fr.OneAt W := by
 obtain ⟨g', t', cs, fuel, p, hg', ht', hvar, hd⟩ := laidMet.reads h h1
 obtain rfl := Option.some.inj (one_named.symm.trans hg')
 obtain rfl := Option.some.inj (one_type.symm.trans ht')
 rcases open_ints Tryz.underlying163 Tryz.underlying132 kCells32 hd with ⟨hcs, hx⟩ | ⟨a, len, cap, zs, hcs, -, hl, hm, hz, hx, hcell, -⟩
 ·have := congrArg Prod.fst hx
  cases this
 ·have hx1 := congrArg Prod.fst hx
  simp only [Rows.laid_tablefinder_fraction_one, DataW.slice.injEq] at hx1
  obtain ⟨e1, e2⟩ := hx1
  have hz' : zs.length = cap := by simpa using hz
  have l1 := congrArg List.length e1
  have l2 := congrArg List.length e2
  simp [lits] at l1 l2
  have hlen : len = 1 := by omega
  have hcap : cap = 1 := by omega
  subst hlen hcap
  obtain ⟨z, rfl⟩ : ∃ z, zs = [z] := List.length_eq_one_iff.1 hz'
  simp [lits] at e1
  subst e1
  have hc := hcell 0 (by simp)
  have hsp := World.cell?_spot hc
  obtain ⟨b, o, spot⟩ := a
  have hspot : spot = none := by simpa [Addr.add] using hsp
  subst hspot
  have hlt : b < W.heap.size := World.block_lt_of_cell? W (Addr.add ⟨b, o, none⟩ 0) hc
  have hv := one_var hvar hcs
  have hgl : (0 : Nat) < W.heap.size := World.block_lt_of_cell? W ⟨0, 0, none⟩ hv
  have hd1 : Fr.dig 1 = [1] := Fr.dig_one_digit (by omega) (by omega)
  refine ⟨_, _, hv, ?_, hgl⟩
  rw [hd1]
  refine ⟨some ⟨b, o, none⟩, 1, rfl, by decide, hm, ?_, fun _ => ⟨b, o, rfl, hlt, fun i hi => ?_⟩⟩
  ·rw [← hd1]; exact Fr.digs_dig 1
  have hi0 : i = 0 := by simpa using hi
  subst hi0
  rw [← Addr.add_lit]
  exact hc
end Go.Proofs.YtikiimlmoalbcaaGreatDoor
