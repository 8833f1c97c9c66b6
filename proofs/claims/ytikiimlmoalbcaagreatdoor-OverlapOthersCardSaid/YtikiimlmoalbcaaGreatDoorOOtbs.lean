/- The walk of OverlapOthers. -/
import Derived.Deep.RegionHeld3
import Derived.Deep.Cut
import Derived.Deep.CutRange
import Derived.Test.YtikiimlmoalbcaaGreatDoorOOtbr
import Derived.Test.YtikiimlmoalbcaaGreatDoorOOtbq
import Derived.Test.YtikiimlmoalbcaaGreatDoorOOtbp
set_option linter.unusedVariables false
set_option linter.unusedSimpArgs false
namespace Go.Proofs.YtikiimlmoalbcaaGreatDoor
open Go.RowKit
theorem tkbs {P : Program} {ops : Array Oper} {Q : Exit → Act → World → Prop} {md : Region.Mode} {S : World → Prop} {i : Nat} {oi : Oper} {v : Value} {fuel : Nat} {listed : Array Bool} {a : Act} {w : World} (a1 : ops[i]? = some oi := by simp only [List.getElem?_toArray, List.getElem?_cons_zero, List.getElem?_cons_succ]; rfl)
    (a2 : Region.noSelect ops = true := by kernel_rfl) (a3 : Region.free md ops listed i = true := by kernel_rfl) (a4 : (Region.ready md ops listed).contains i = true := by kernel_rfl) (a5 : ∀ (c : List PanicEntry) (a : Act) (w : World), Q (Exit.panic c) (a.put oi.dst v) w → Q (Exit.panic c) a w := by intro _ _ _ h; exact h)
    (y : YieldsIf P ops S oi v a) (a6 : S w := by assumption) (z : wpAnyH P md ops Q S fuel (listed.setIfInBounds i true) (a.put oi.dst v) w) : wpAnyH P md ops Q S (fuel + 1) listed a w := wpAnyH_take a1 a2 a3 a4 a5 y a6 z
theorem csbs {P : Program} {ops : Array Oper} {Q : Exit → Act → World → Prop} {md : Region.Mode} {S : World → Prop} {fuel : Nat} {listed : Array Bool} {a : Act} {w : World} {i : Nat} {o : Oper} {rs : List Nat} (a1 : ops[i]? = some o := by simp only [List.getElem?_toArray, List.getElem?_cons_zero, List.getElem?_cons_succ]; rfl)
    (x : ∀ (K' : Act → World → Prop), Shut (∀ (a : Act) (w : World), S w → (S w → wpAnyH P md ops Q S fuel (listed.setIfInBounds i true) a w) → K' a w) → if Region.wanted o (yielded ops a.tmps) = true then Oper.wp P o a w K' Q else K' (a.put o.dst undef) w)
    (y : AllReadyH P md ops Q S fuel listed a w rs) : AllReadyH P md ops Q S fuel listed a w (i :: rs) := AllReadyH.cons a1 x y
theorem rolled_col {ts : List Ta} (h : ListOk 4 4 7 ts) : ∀ x ∈ cvsL ts, x.1.2 < 70 := fun x hx => by
 have h1 : x.1 ∈ refsL ts := by rw [← cvsL_refsB]; exact List.mem_map_of_mem hx
 obtain ⟨t, ht, hr⟩ := List.mem_flatMap.1 h1
 obtain ⟨k, hk, e⟩ := List.mem_map.1 hr
 have h2 := (h.2.1 t ht).1.2.1
 have h3 := List.mem_range.1 hk
 rw [← e]
 show k < 70
 omega
def RdN (B : Nat) (W : World) (ev vv lv : Value) (x : Ix) : Prop := RdIx W (fun k => B ≤ k ∧ k < W.heap.size) ev vv lv x
theorem RdN.later {B : Nat} {W W' : World} {ev vv lv : Value} {x : Ix} (h : RdN B W ev vv lv x) (hb : Below W.heap.size W W') : RdN B W' ev vv lv x :=
 (RdIx.keep h fun p hp => hb.cell (p := p) hp.2).more fun k hk => ⟨hk.1, Nat.lt_of_lt_of_le hk.2 hb.size⟩
theorem RdN.set {B : Nat} {W : World} {ev vv lv : Value} {x : Ix} (h : RdN B W ev vv lv x) {p : Addr} (hp : p.block < B) (u : Value) : RdN B (W.setCell p u) ev vv lv x :=
 (RdIx.keep h fun a ha => World.cell?_of_block (Below.heap_setCell _ _ _ _ (by have := ha.1; omega))).more fun k hk => ⟨hk.1, by simpa using hk.2⟩
theorem RdN.base {B B' : Nat} {W : World} {ev vv lv : Value} {x : Ix} (h : RdN B W ev vv lv x) (hB : B' ≤ B) : RdN B' W ev vv lv x := RdIx.more h fun k hk => ⟨Nat.le_trans hB hk.1, hk.2⟩
set_option maxRecDepth 100000 in
set_option maxHeartbeats 8000000 in
theorem law19_others (hsane : ∀ W : World, Tabs W → Fr.OneAt W → Calls Tryz.prog 18 #[] W (Ret W (.bool true))) (sa : Option Addr) (sn sc N1 : Nat) (h1 : N1 < 256) (w : World) (hs : RdU w w.heap.size sa sn sc) (hT : Tabs w) (ho : Fr.OneAt w) :
  Calls Tryz.prog 5 #[.slice sa sn sc, .int .u8 (N1 : Int)] w (Ret w (.bool true)) := by
 obtain ⟨i0, hi, hz0, hz1, hz2⟩ := info_parts info_str
 have HS := hid hs
 have HSN := hid (hsane w hT ho)
 have HT := hid hT
 have HO := hid ho
 clear hs hT ho hsane
 obtain ⟨n, hnd⟩ : ∃ k, k = N1 % 6 := ⟨_, rfl⟩
 have hn6 : n ≤ 5 := by omega
 have HN := hid hnd
 clear hnd
 go_enter Tryz.func5, Tryz.ntmps5
 generalize hLA : Code.loop _ = LA
 go_wp2_with fail
 with_reducible refine HSN.out.mono ?_
 rintro e w1 ⟨rfl, hb1⟩
 have HB1 := hid hb1
 have HU1 := hid (rdU_laterB HS.out hb1)
 have hz1' := hb1.size
 clear hb1
 go_wp2_with fail
 with_reducible refine (mill_New sa sn sc _ HU1.out).mono ?_
 rintro e w2 ⟨rfl, hd2, hb2⟩
 have HD2 := hid hd2
 have HB2 := hid (HB1.out.trans (hb2.mono HB1.out.size))
 have hzg : w1.heap.size < w2.heap.size := hd2.lt
 clear hd2 hb2 HU1
 obtain ⟨g, hg⟩ : ∃ g, g = w1.heap.size := ⟨_, rfl⟩
 rw [← hg] at HD2 hz1' hzg ⊢
 clear hg
 have HIX := hid (dice_Index g w w2 HD2.out HT.out HB2.out hz1')
 go_wp2_with fail
 with_reducible refine HIX.out.mono ?_
 clear HIX
 rintro e w3 ⟨ts, ev, vv, lv, rfl, hok, hrx, hd3, hr3⟩
 have hB3 := HB2.out.trans (hr3.below (B' := w.heap.size) hz1' HB2.out.size)
 have HROK := hid (rolled_ok hok)
 have HFR := hid (rolled_col hok)
 have HRX := hid hrx
 have hz3 := hr3.size
 have HD3 := hid hd3
 have HB3 := hid hB3
 obtain ⟨ea, ec, rfl, -⟩ := id hrx.ents
 obtain ⟨va, vc, rfl, -⟩ := id hrx.vals
 obtain ⟨lf, ⟨la, lc, rfl, -⟩, -⟩ := id hrx.lists
 generalize cvsL ts = cs at *
 clear hok hrx hd3 hr3 hB3
 have HX4 := hid (BoxN.new w3 #[.slice ea (indexOf cs).ents.length ec, .slice va (indexOf cs).vals.length vc, .slice la (indexOf cs).lists.length lc] 30)
 have HB4 := hid (HB3.out.alloc HB3.out.size (.cells #[.slice ea (indexOf cs).ents.length ec, .slice va (indexOf cs).vals.length vc, .slice la (indexOf cs).lists.length lc] 30))
 have HD4 := hid (HD3.out.alloc (.cells #[.slice ea (indexOf cs).ents.length ec, .slice va (indexOf cs).vals.length vc, .slice la (indexOf cs).lists.length lc] 30))
 have HRX4 := hid (HRX.out.keep (w' := w3.alloc (.cells #[.slice ea (indexOf cs).ents.length ec, .slice va (indexOf cs).vals.length vc, .slice la (indexOf cs).lists.length lc] 30)) fun p hp => World.cell?_alloc_lt _ _ _ hp.2)
 have x0 := HX4.out.cell 0 rfl
 have x1 := HX4.out.cell 1 rfl
 have x2 := HX4.out.cell 2 rfl
 have hsz4 : w3.heap.size < (w3.alloc (.cells #[.slice ea (indexOf cs).ents.length ec, .slice va (indexOf cs).vals.length vc, .slice la (indexOf cs).lists.length lc] 30)).heap.size := HX4.out.lt
 have HQ := hid (law19_query g _ _ _ (indexOf cs) _ (w3.alloc (.cells #[.slice ea (indexOf cs).ents.length ec, .slice va (indexOf cs).vals.length vc, .slice la (indexOf cs).lists.length lc] 30)) HD4.out HRX4.out (fun k hk => ⟨Nat.lt_trans hk.2 hsz4, by have h5 := hk.1; omega⟩) HROK.out.2.1)
 go_wp2_with fail
 with_reducible refine HQ.out.mono ?_
 clear HQ x0 x1 x2
 obtain ⟨w4, hw4⟩ : ∃ V, V = w3.alloc (.cells #[.slice ea (indexOf cs).ents.length ec, .slice va (indexOf cs).vals.length vc, .slice la (indexOf cs).lists.length lc] 30) := ⟨_, rfl⟩
 rw [← hw4] at HX4 HB4 HRX4 hsz4 ⊢
 clear hw4 HD4
 rintro e w5 ⟨qa, qc, q, rfl, hown, hasc, hql, hd5, hr5⟩
 have HB5 := hid (HB4.out.trans (hr5.below (B' := w.heap.size) hz1' HB4.out.size))
 have HX5 := hid (show BoxN w5 w3.heap.size 30 #[.slice ea (indexOf cs).ents.length ec, .slice va (indexOf cs).vals.length vc, .slice la (indexOf cs).lists.length lc] from (hr5.block _ HX4.out.lt (by omega)).trans HX4.out)
 have HRX5 := hid (HRX4.out.keep (w' := w5) fun p hp => hr5.cell (p := p) (Nat.lt_trans hp.2 hsz4) (by have h5 := hp.1; omega))
 have HQ5 := hid hown
 have HASC := hid hasc
 have HD5 := hid hd5
 have hz45 := hr5.size
 have hgw4 : g < w4.heap.size := by omega
 have HX4L := hid (show w3.heap.size < w5.heap.size by have := HX4.out.lt; omega)
 clear hown hasc hd5 hr5 HX4 HB4 HRX4
 go_wp2_with fail
 with_reducible refine (dice_Query g 8 w5 HD5.out (by omega) (by omega)).mono ?_
 rintro e w6 ⟨wa, wc0, ws, rfl, hown6, hwl, -, hwasc, hd6, hr6⟩
 have hwl8 : ws.length ≤ 8 := by omega
 have HX6 := hid (show BoxN w6 w3.heap.size 30 #[.slice ea (indexOf cs).ents.length ec, .slice va (indexOf cs).vals.length vc, .slice la (indexOf cs).lists.length lc] from (hr6.block _ HX5.out.lt (by omega)).trans HX5.out)
 have HRX6 := hid ((HRX5.out.keep (w' := w6) fun p hp => hr6.cell (p := p) (by have := hp.2; omega) (by have h5 := hp.1; omega)).more (S' := fun k => g < k ∧ k < w6.heap.size) fun k hk => ⟨by have := hk.1; omega, by have := hk.2; have := hr6.size; omega⟩)
 have HQ6 := hid (InK.more (rdS_S (own_roll HQ5.out hr6 (Nat.le_refl _) hgw4)) (S' := fun k => g < k ∧ k < w6.heap.size) fun k hk => ⟨by have := hk.1; omega, hk.2⟩)
 have HB6 := hid (HB5.out.trans (hr6.below (B' := w.heap.size) hz1' HB5.out.size))
 have HWS := hid (rdS_S hown6)
 have HWA := hid hwasc
 have HD6 := hid hd6
 have hz56 := hr6.size
 clear hown6 hwasc hd6 hr6 HD5 HQ5 HRX5 HX5 hwl
 obtain ⟨wa', wc', ewa, hwc1, hwc2, hwcell⟩ := id HWS.out
 obtain ⟨rfl, -, rfl⟩ := Value.slice.inj ewa
 have HWC := hid (fun W p (hW : Below w6.heap.size w6 W) (hp : p < ws.length) => (by
  obtain ⟨b, o, e, hb, hc⟩ := hwcell (by omega)
  have h4 := hc p hp 0 (by omega)
  exact ⟨b, o, e, (hW.cell (p := ⟨b, o + p, none⟩) hb.2).trans (by simpa [strF] using h4)⟩ : ∃ b o, wa = some ⟨b, o, none⟩ ∧ W.cell? ⟨b, o + p, none⟩ = some (.string (ws.getD p ⟨#[]⟩))))
 have HHA := hid (fun W s (hW : Below w6.heap.size w6 W) => ref_Has (.slice qa q.length qc) q s W.heap.size W (InS.rds (InK.keep HQ6.out fun p hp => hW.cell (p := p) hp.2) fun b hb => Nat.lt_of_lt_of_le hb.2 hW.size))
 have HFT := hid (fun p (hp : p < ws.length) => filter_take (fun v => !hasL q v) hp)
 clear hwcell ewa hwc1 hwc2
 go_wp2_with fail
 subst hLA
 go_loopg [31, 8] ws.length (fun Q ix o wr => ∃ (p : Nat) (ys : List ByteArray) (a : Option Addr) (c : Nat), ix = .int .i64 (p : Int) ∧ p + Q = ws.length ∧ o = .slice a ys.length c ∧ Hid (ys = (ws.take p).filter fun v => !hasL q v) ∧ ys.length ≤ p ∧ Hid (wr.ownsRow w6.heap.size 9 1 (.slice a ys.length c) ys.length (ys.map Value.string)) ∧ Hid (Below w6.heap.size w6 wr))
 case atStart => exact ⟨0, [], none, 0, rfl, by omega, rfl, hid rfl, by simp, hid (World.ownsRow_nil _ _ _ _), hid (Below.refl _ _)⟩
 case round =>
  obtain ⟨p, ys, a, c, rfl, hp0, rfl, HYS, hyl, HO8, HBR⟩ := hrel
  by_cases hp : 0 < gk
  ·have hpl : p < ws.length := by omega
   have hpi : (p : Int) < (ws.length : Int) := by omega
   obtain ⟨b, o, rfl, k0⟩ := HWC.out wr p HBR.out hpl
   have hft := HFT.out p hpl
   have HHS := hid (HHA.out wr (ws.getD p ⟨#[]⟩) HBR.out)
   generalize ws.getD p ⟨#[]⟩ = s at *
   have HF := hid hft
   clear hft
   go_wp2_with fail
   with_reducible refine HHS.out.mono ?_
   rintro e w7 hq7
   obtain ⟨rfl, hb7⟩ := hq7.ret
   have HB7 := hid (HBR.out.trans (hb7.mono HBR.out.size))
   have HO7 := hid (ownZ_below HO8.out hb7)
   have hz7 := HB7.out.size
   clear hb7 hq7 k0 HHS
   cases hhas : hasL q s with
   | true =>
    rw [hhas] at HF
    go_wp2_with fail
    go_roundg (gk - 1)
    case rel => exact ⟨p + 1, ys, a, c, by go_num, by omega, rfl, hid (by rw [HF.out, HYS.out]; simp), by omega, HO7, HB7⟩
    case measure => omega
   | false =>
    rw [hhas] at HF
    obtain ⟨yl, hylen⟩ : ∃ yl, yl = ys.length := ⟨_, rfl⟩
    have HYL := hid hylen
    rw [← hylen] at HO7 hyl ⊢
    clear hylen
    go_wp2_with (at_builtin; refine wpList_append_form _ rfl (.tmp 39) (.tmp 41) 27 27 rfl w6.heap.size 9 9 i0 (.string ⟨#[]⟩) 1 16 Tryz.underlying27 Tryz.underlying27 hi hz0 hz1 hz2 rfl (by decide) (.slice a yl c) yl (ys.map Value.string) rfl (HO7.out.alloc _) (some ⟨_, 0, none⟩) 1 1 [.string s] rfl rfl (fun _ => ⟨_, rfl, cell_one_new _ _ _⟩) (by intro u hu; simp at hu; subst hu; rfl) (by omega) (by unfold maxLen; omega) (by omega) (by simp; omega) ?_; intro g7 cap7 w8 hown7 hg7 hat7 hlt7; have HOWN7 := hid hown7; have HB8 := hid (Below.grown (HB7.out.alloc hz7 (.cells #[.string s] 9)) hg7 (by simp; omega) (fun k hk => (HO7.out.lt k hk).1)); clear hown7 hg7 hat7 hlt7)
    go_wp2
    go_roundg (gk - 1)
    case rel => exact ⟨p + 1, ys ++ [s], _, cap7, by go_num, by omega, by rw [List.length_append, ← HYL.out]; rfl, hid (by rw [HF.out, ← HYS.out]; simp), by rw [List.length_append, ← HYL.out, List.length_singleton]; omega, hid (by rw [List.length_append, ← HYL.out, List.map_append]; exact HOWN7.out), HB8⟩
    case measure => omega
  ·obtain rfl : gk = 0 := by omega
   obtain rfl : p = ws.length := by omega
   have hys : ys = ws.filter fun v => !hasL q v := by rw [HYS.out, List.take_length]
   have HYA := hid (show Asc ys by rw [hys]; exact asc_filter HWA.out _)
   have HYD := hid (show ∀ v ∈ q, v ∉ ys by
    intro v hv h
    rw [hys] at h
    have h2 := (List.mem_filter.1 h).2
    rw [(hasL_iff q v).2 hv] at h2
    cases h2)
   clear hys
   obtain ⟨w8, hw8⟩ : ∃ V, V = wr := ⟨_, rfl⟩
   rw [← hw8] at HO8 HBR ⊢
   clear hw8
   have HX8 := hid (HX6.out.below HBR.out HX6.out.lt)
   have HRX8 := hid (HRX6.out.keep (w' := w8) fun p hp => HBR.out.cell (p := p) hp.2)
   have HQ8 := hid (InK.keep (w' := w8) HQ6.out fun p hp => HBR.out.cell (p := p) hp.2)
   have HYS8 := hid (rdS_S HO8.out)
   have HD8 := hid (HD6.out.below HBR.out (by omega))
   have HB8 := hid (HB6.out.trans (HBR.out.mono HB6.out.size))
   have hz68 := HBR.out.size
   have hg8 : g < w8.heap.size := by omega
   have hgl6 : g < w6.heap.size := by omega
   have hx68 : w3.heap.size < w6.heap.size := HX6.out.lt
   have hgx : g < w3.heap.size := by omega
   have hmany := HROK.out.2.2
   have HADD := hid (fun W (r : Nat) (hW : Roll w8.heap.size g w8 W) (hr : r < 40) => ref18_Add cs HROK.out.1 _ _ _ (.slice a ys.length c) (r : Int) 70 ys W
    ((HRX8.out.keep (w' := W) fun p hp => hW.cell (p := p) (by have := hp.2; omega) (by have := hp.1; omega)).more fun k hk => (by have := hk.2; have := hW.size; omega : k < W.heap.size))
    (InK.more (InK.keep (w' := W) HYS8.out fun p hp => hW.cell (p := p) hp.2 (by have := hp.1; omega)) fun k hk => (by have := hk.2; have := hW.size; omega : k < W.heap.size))
    HYA.out (by omega) (by omega) (by omega) (fun x hx e => by
     have h5 := HFR.out x hx
     have h6 := congrArg Prod.snd e
     unfold refZ at h6
     simp only at h6
     omega) (by omega))
   have HG := hid (fun W (hW : Roll w8.heap.size g w8 W) => (by
    have h1 : BoxN W w3.heap.size 30 _ := (hW.block _ (by omega) (by omega)).trans HX8.out
    exact ⟨h1.cell 0 rfl, h1.cell 1 rfl, h1.cell 2 rfl⟩ : W.cell? ⟨w3.heap.size, 0, none⟩ = some (.slice ea (indexOf cs).ents.length ec) ∧ W.cell? ⟨w3.heap.size, 1, none⟩ = some (.slice va (indexOf cs).vals.length vc) ∧ W.cell? ⟨w3.heap.size, 2, none⟩ = some (.slice la (indexOf cs).lists.length lc)))
   rw [show ((70 : Nat) : Int) = 70 from rfl] at HADD
   go_upto_region 13 with fail
   go_cut [11, 12] from 45 to 52 (fun s11 s12 wx => ∃ (r rb : Nat) (ea9 va9 la9 : Option Addr) (n1 ec9 n2 vc9 n3 lc9 : Nat), s11 = .pointer (some ⟨rb, 0, none⟩) ∧ s12 = .int .i64 0 ∧ r < 40 ∧ w8.heap.size ≤ rb ∧ Hid (Roll w8.heap.size g w8 wx) ∧ Hid (BoxN wx rb 30 #[.slice ea9 n1 ec9, .slice va9 n2 vc9, .slice la9 n3 lc9]) ∧ Hid (RdN w8.heap.size wx (.slice ea9 n1 ec9) (.slice va9 n2 vc9) (.slice la9 n3 lc9) (indexOf (putL cs (putK cs (((r : Int), 70), ys)) (((r : Int), 70), ys)))))
   case first =>
    have HD := hid (show Roll w8.heap.size g w8 w8.drew from ⟨rfl, rfl, rfl, Nat.le_refl _, fun _ _ _ => rfl⟩)
    have HDI := hid (show DiceAt 89 w8.drew g from HD8.out)
    have HKHDI := hid (Below.refl w8.drew.heap.size w8.drew)
    refine wp_region_held_drew (S := fun W => W.cell? ⟨w3.heap.size, 0, none⟩ = some (.slice ea (indexOf cs).ents.length ec) ∧ W.cell? ⟨w3.heap.size, 1, none⟩ = some (.slice va (indexOf cs).vals.length vc) ∧ W.cell? ⟨w3.heap.size, 2, none⟩ = some (.slice la (indexOf cs).lists.length lc)) (by kernel_rfl) (HG.out _ HD.out) (fun hHeld => ?_)
    generalize w8.drew = Wd at *
    refine tkbs (i := 0) (v := ?_) (y := (Or.inl ⟨by rfl, ?_⟩)) (z := ?_)
    rotate_left
    ·(intro w' hSw; (try dsimp only at hSw); go_simp) <;> with_reducible rfl
    try simp only [Act.put, List.setIfInBounds_toArray, List.set]
    refine tkbs (i := 1) (v := ?_) (y := (Or.inl ⟨by rfl, ?_⟩)) (z := ?_)
    rotate_left
    ·(intro w' hSw; (try dsimp only at hSw); go_simp) <;> with_reducible rfl
    try simp only [Act.put, List.setIfInBounds_toArray, List.set]
    refine tkbs (i := 4) (v := ?_) (y := (Or.inl ⟨by rfl, ?_⟩)) (z := ?_)
    rotate_left
    ·(intro w' hSw; (try dsimp only at hSw); go_simp) <;> with_reducible rfl
    try simp only [Act.put, List.setIfInBounds_toArray, List.set]
    refine wpAnyH_ready (rs := [2, 9]) (by kernel_rfl) (by simp) ?_
    refine csbs (x := fun K hK => ?_) (y := ?_)
    ·go_simp
     go_at_call 22
     go_must ((with_reducible refine (dice_Pick g 40 Wd (HDI.out.below HKHDI.out HDI.out.lt) (by omega) (by omega)).mono ?_); rintro e wc0 ⟨rr, rfl, hrr, -, hbc, -⟩; have HBc0 := hid (HD.out.trans (hbc.mono HD.out.size)); clear hbc)
     (try go_wp2_with fail)
     refine hK.out _ _ (HG.out _ HBc0.out) (fun hHeld => ?_)
     clear hK K
     try simp only [Act.put, List.setIfInBounds_toArray, List.set]
     refine tkbs (i := 3) (v := ?_) (y := (Or.inl ⟨by rfl, ?_⟩)) (z := ?_)
     rotate_left
     ·(intro w' hSw; (try dsimp only at hSw); go_simp) <;> with_reducible rfl
     try simp only [Act.put, List.setIfInBounds_toArray, List.set]
     refine wpAnyH_ready (rs := [5, 9]) (by kernel_rfl) (by simp) ?_
     refine csbs (x := fun K hK => ?_) (y := ?_)
     ·go_simp
      go_at_call 27
      go_must ((with_reducible refine (HADD.out wc0 rr HBc0.out (by omega)).mono ?_); rintro e wc1 ⟨ev9, vv9, lv9, rfl, hrx9, hbc⟩; obtain ⟨ea9, ec9, rfl, -⟩ := id hrx9.ents; obtain ⟨va9, vc9, rfl, -⟩ := id hrx9.vals; obtain ⟨lf9, ⟨la9, lc9, rfl, -⟩, -⟩ := id hrx9.lists; generalize (indexOf (putL cs (putK cs (((rr : Int), 70), ys)) (((rr : Int), 70), ys))).ents.length = n1 at *; generalize (indexOf (putL cs (putK cs (((rr : Int), 70), ys)) (((rr : Int), 70), ys))).vals.length = n2 at *; generalize (indexOf (putL cs (putK cs (((rr : Int), 70), ys)) (((rr : Int), 70), ys))).lists.length = n3 at *; have HBc1 := hid (HBc0.out.trans ((Roll.of_below hbc g).mono HBc0.out.size)); have hbz := HBc0.out.size; have HRN := hid (show RdN wc0.heap.size wc1 (.slice ea9 n1 ec9) (.slice va9 n2 vc9) (.slice la9 n3 lc9) (indexOf (putL cs (putK cs (((rr : Int), 70), ys)) (((rr : Int), 70), ys))) from hrx9); clear hrx9; have HKHRN1 := hid (Below.refl wc1.heap.size wc1); clear hbc)
      (try go_wp2_with fail)
      refine hK.out _ _ (HG.out _ HBc1.out) (fun hHeld => ?_)
      clear hK K
      try simp only [Act.put, List.setIfInBounds_toArray, List.set]
      refine tkbs (i := 6) (v := ?_) (y := (Or.inl ⟨by rfl, ?_⟩)) (z := ?_)
      rotate_left
      ·(intro w' hSw; (try dsimp only at hSw); go_simp) <;> with_reducible rfl
      try simp only [Act.put, List.setIfInBounds_toArray, List.set]
      refine tkbs (i := 7) (v := ?_) (y := (Or.inl ⟨by rfl, ?_⟩)) (z := ?_)
      rotate_left
      ·(intro w' hSw; (try dsimp only at hSw); go_simp) <;> with_reducible rfl
      try simp only [Act.put, List.setIfInBounds_toArray, List.set]
      refine tkbs (i := 8) (v := ?_) (y := (Or.inl ⟨by rfl, ?_⟩)) (z := ?_)
      rotate_left
      ·(intro w' hSw; (try dsimp only at hSw); go_simp) <;> with_reducible rfl
      try simp only [Act.put, List.setIfInBounds_toArray, List.set]
      refine wpAnyH_ready (rs := [9]) (by kernel_rfl) (by simp) ?_
      refine csbs (x := fun K hK => ?_) (y := ?_)
      ·go_simp
       have HBa2 := hid (HBc1.out.alloc HBc1.out.size (.cells #[.slice none 0 0, .slice none 0 0, .slice none 0 0] 30))
       have HXa2 := hid (BoxN.new wc1 #[.slice none 0 0, .slice none 0 0, .slice none 0 0] 30)
       have hloHRN : wc1.heap.size ≤ wc1.heap.size := HKHRN1.out.size
       have HKHRN2 := hid (HKHRN1.out.alloc HKHRN1.out.size (.cells #[.slice none 0 0, .slice none 0 0, .slice none 0 0] 30))
       refine hK.out _ _ (HG.out _ HBa2.out) (fun hHeld => ?_)
       clear hK K
       try simp only [Act.put, List.setIfInBounds_toArray, List.set]
       obtain ⟨Wa2, hWa2⟩ : ∃ V, V = World.alloc wc1 (.cells #[.slice none 0 0, .slice none 0 0, .slice none 0 0] 30) := ⟨_, rfl⟩
       rw [← hWa2] at HBa2 HXa2 HKHRN2 hHeld ⊢
       clear hWa2
       refine wpAnyH_ready (rs := [10]) (by kernel_rfl) (by simp) ?_
       refine csbs (x := fun K hK => ?_) (y := AllReadyH.nil)
       have e0 := HXa2.out.cell 0 rfl
       have f0 := HXa2.out.frozen 0
       have e1 := HXa2.out.cell 1 rfl
       have f1 := HXa2.out.frozen 1
       have e2 := HXa2.out.cell 2 rfl
       have f2 := HXa2.out.frozen 2
       have hlo : w8.heap.size ≤ wc1.heap.size := HBc1.out.size
       go_simp
       have g0 : BoxN _ wc1.heap.size 30 #[.slice ea9 n1 ec9, .slice none 0 0, .slice none 0 0] := HXa2.out.set 0 (.slice ea9 n1 ec9)
       have h0 := HBa2.out.trans (Roll.of_below ((Below.refl w8.heap.size _).setCell (p := ⟨wc1.heap.size, 0, none⟩) hlo (.slice ea9 n1 ec9)) g)
       have g1 : BoxN _ wc1.heap.size 30 #[.slice ea9 n1 ec9, .slice va9 n2 vc9, .slice none 0 0] := g0.set 1 (.slice va9 n2 vc9)
       have h1 := h0.trans (Roll.of_below ((Below.refl w8.heap.size _).setCell (p := ⟨wc1.heap.size, 1, none⟩) hlo (.slice va9 n2 vc9)) g)
       have g2 : BoxN _ wc1.heap.size 30 #[.slice ea9 n1 ec9, .slice va9 n2 vc9, .slice la9 n3 lc9] := g1.set 2 (.slice la9 n3 lc9)
       have h2 := h1.trans (Roll.of_below ((Below.refl w8.heap.size _).setCell (p := ⟨wc1.heap.size, 2, none⟩) hlo (.slice la9 n3 lc9)) g)
       have HGX := hid g2
       have HHX := hid h2
       have HZHRN := hid (RdN.later (HRN.out) (((HKHRN2.out.setCell (p := ⟨wc1.heap.size, 0, none⟩) hloHRN (.slice ea9 n1 ec9)).setCell (p := ⟨wc1.heap.size, 1, none⟩) hloHRN (.slice va9 n2 vc9)).setCell (p := ⟨wc1.heap.size, 2, none⟩) hloHRN (.slice la9 n3 lc9)))
       clear g0 h0 e0 f0 g1 h1 e1 f1 g2 h2 e2 f2
       refine hK.out _ _ (HG.out _ HHX.out) (fun hHeld => ?_)
       clear hK K
       try simp only [Act.put, List.setIfInBounds_toArray, List.set]
       refine tkbs (i := 11) (v := ?_) (y := (Or.inl ⟨by rfl, ?_⟩)) (z := ?_)
       rotate_left
       ·(intro w' hSw; (try dsimp only at hSw); go_simp) <;> with_reducible rfl
       try simp only [Act.put, List.setIfInBounds_toArray, List.set]
       refine wpAnyH_done (by kernel_rfl) ?_ _
       go_wp2_with fail
       go_meet
       exact ⟨rr, _, ea9, va9, la9, n1, ec9, n2, vc9, n3, lc9, rfl, rfl, by omega, hlo, HHX, HGX, hid (HZHRN.out.base hbz)⟩
      exact AllReadyH.nil
     refine csbs (x := fun K hK => ?_) (y := ?_)
     ·go_simp
      have HBa1 := hid (HBc0.out.alloc HBc0.out.size (.cells #[.slice none 0 0, .slice none 0 0, .slice none 0 0] 30))
      have HXa1 := hid (BoxN.new wc0 #[.slice none 0 0, .slice none 0 0, .slice none 0 0] 30)
      refine hK.out _ _ (HG.out _ HBa1.out) (fun hHeld => ?_)
      clear hK K
      try simp only [Act.put, List.setIfInBounds_toArray, List.set]
      obtain ⟨Wa1, hWa1⟩ : ∃ V, V = World.alloc wc0 (.cells #[.slice none 0 0, .slice none 0 0, .slice none 0 0] 30) := ⟨_, rfl⟩
      rw [← hWa1] at HBa1 HXa1  hHeld ⊢
      clear hWa1
      refine wpAnyH_ready (rs := [5]) (by kernel_rfl) (by simp) ?_
      refine csbs (x := fun K hK => ?_) (y := ?_)
      ·go_simp
       go_at_call 27
       go_must ((with_reducible refine (HADD.out Wa1 rr HBa1.out (by omega)).mono ?_); rintro e wc2 ⟨ev9, vv9, lv9, rfl, hrx9, hbc⟩; obtain ⟨ea9, ec9, rfl, -⟩ := id hrx9.ents; obtain ⟨va9, vc9, rfl, -⟩ := id hrx9.vals; obtain ⟨lf9, ⟨la9, lc9, rfl, -⟩, -⟩ := id hrx9.lists; generalize (indexOf (putL cs (putK cs (((rr : Int), 70), ys)) (((rr : Int), 70), ys))).ents.length = n1 at *; generalize (indexOf (putL cs (putK cs (((rr : Int), 70), ys)) (((rr : Int), 70), ys))).vals.length = n2 at *; generalize (indexOf (putL cs (putK cs (((rr : Int), 70), ys)) (((rr : Int), 70), ys))).lists.length = n3 at *; have HBc2 := hid (HBa1.out.trans ((Roll.of_below hbc g).mono HBa1.out.size)); have HXc2 := hid (HXa1.out.below hbc HXa1.out.lt); have hbz := HBa1.out.size; have HRN := hid (show RdN Wa1.heap.size wc2 (.slice ea9 n1 ec9) (.slice va9 n2 vc9) (.slice la9 n3 lc9) (indexOf (putL cs (putK cs (((rr : Int), 70), ys)) (((rr : Int), 70), ys))) from hrx9); clear hrx9; have HKHRN2 := hid (Below.refl wc2.heap.size wc2); have hrbHRN : wc0.heap.size < Wa1.heap.size := HXa1.out.lt; clear hbc)
       (try go_wp2_with fail)
       refine hK.out _ _ (HG.out _ HBc2.out) (fun hHeld => ?_)
       clear hK K
       try simp only [Act.put, List.setIfInBounds_toArray, List.set]
       refine tkbs (i := 6) (v := ?_) (y := (Or.inl ⟨by rfl, ?_⟩)) (z := ?_)
       rotate_left
       ·(intro w' hSw; (try dsimp only at hSw); go_simp) <;> with_reducible rfl
       try simp only [Act.put, List.setIfInBounds_toArray, List.set]
       refine tkbs (i := 7) (v := ?_) (y := (Or.inl ⟨by rfl, ?_⟩)) (z := ?_)
       rotate_left
       ·(intro w' hSw; (try dsimp only at hSw); go_simp) <;> with_reducible rfl
       try simp only [Act.put, List.setIfInBounds_toArray, List.set]
       refine tkbs (i := 8) (v := ?_) (y := (Or.inl ⟨by rfl, ?_⟩)) (z := ?_)
       rotate_left
       ·(intro w' hSw; (try dsimp only at hSw); go_simp) <;> with_reducible rfl
       try simp only [Act.put, List.setIfInBounds_toArray, List.set]
       refine wpAnyH_ready (rs := [10]) (by kernel_rfl) (by simp) ?_
       refine csbs (x := fun K hK => ?_) (y := AllReadyH.nil)
       have e0 := HXc2.out.cell 0 rfl
       have f0 := HXc2.out.frozen 0
       have e1 := HXc2.out.cell 1 rfl
       have f1 := HXc2.out.frozen 1
       have e2 := HXc2.out.cell 2 rfl
       have f2 := HXc2.out.frozen 2
       have hlo : w8.heap.size ≤ wc0.heap.size := HBc0.out.size
       go_simp
       have g0 : BoxN _ wc0.heap.size 30 #[.slice ea9 n1 ec9, .slice none 0 0, .slice none 0 0] := HXc2.out.set 0 (.slice ea9 n1 ec9)
       have h0 := HBc2.out.trans (Roll.of_below ((Below.refl w8.heap.size _).setCell (p := ⟨wc0.heap.size, 0, none⟩) hlo (.slice ea9 n1 ec9)) g)
       have g1 : BoxN _ wc0.heap.size 30 #[.slice ea9 n1 ec9, .slice va9 n2 vc9, .slice none 0 0] := g0.set 1 (.slice va9 n2 vc9)
       have h1 := h0.trans (Roll.of_below ((Below.refl w8.heap.size _).setCell (p := ⟨wc0.heap.size, 1, none⟩) hlo (.slice va9 n2 vc9)) g)
       have g2 : BoxN _ wc0.heap.size 30 #[.slice ea9 n1 ec9, .slice va9 n2 vc9, .slice la9 n3 lc9] := g1.set 2 (.slice la9 n3 lc9)
       have h2 := h1.trans (Roll.of_below ((Below.refl w8.heap.size _).setCell (p := ⟨wc0.heap.size, 2, none⟩) hlo (.slice la9 n3 lc9)) g)
       have HGX := hid g2
       have HHX := hid h2
       have HZHRN := hid ((RdN.set ((RdN.set ((RdN.set ((RdN.later (HRN.out) HKHRN2.out)) (p := ⟨wc0.heap.size, 0, none⟩) hrbHRN (.slice ea9 n1 ec9))) (p := ⟨wc0.heap.size, 1, none⟩) hrbHRN (.slice va9 n2 vc9))) (p := ⟨wc0.heap.size, 2, none⟩) hrbHRN (.slice la9 n3 lc9)))
       clear g0 h0 e0 f0 g1 h1 e1 f1 g2 h2 e2 f2
       refine hK.out _ _ (HG.out _ HHX.out) (fun hHeld => ?_)
       clear hK K
       try simp only [Act.put, List.setIfInBounds_toArray, List.set]
       refine tkbs (i := 11) (v := ?_) (y := (Or.inl ⟨by rfl, ?_⟩)) (z := ?_)
       rotate_left
       ·(intro w' hSw; (try dsimp only at hSw); go_simp) <;> with_reducible rfl
       try simp only [Act.put, List.setIfInBounds_toArray, List.set]
       refine wpAnyH_done (by kernel_rfl) ?_ _
       go_wp2_with fail
       go_meet
       exact ⟨rr, _, ea9, va9, la9, n1, ec9, n2, vc9, n3, lc9, rfl, rfl, by omega, hlo, HHX, HGX, hid (HZHRN.out.base hbz)⟩
      exact AllReadyH.nil
     exact AllReadyH.nil
    refine csbs (x := fun K hK => ?_) (y := ?_)
    ·go_simp
     have HBa0 := hid (HD.out.alloc HD.out.size (.cells #[.slice none 0 0, .slice none 0 0, .slice none 0 0] 30))
     have HXa0 := hid (BoxN.new Wd #[.slice none 0 0, .slice none 0 0, .slice none 0 0] 30)
     have hloHDI : Wd.heap.size ≤ Wd.heap.size := HKHDI.out.size
     have HKHDI0 := hid (HKHDI.out.alloc HKHDI.out.size (.cells #[.slice none 0 0, .slice none 0 0, .slice none 0 0] 30))
     refine hK.out _ _ (HG.out _ HBa0.out) (fun hHeld => ?_)
     clear hK K
     try simp only [Act.put, List.setIfInBounds_toArray, List.set]
     obtain ⟨Wa0, hWa0⟩ : ∃ V, V = World.alloc Wd (.cells #[.slice none 0 0, .slice none 0 0, .slice none 0 0] 30) := ⟨_, rfl⟩
     rw [← hWa0] at HBa0 HXa0 HKHDI0 hHeld ⊢
     clear hWa0
     refine wpAnyH_ready (rs := [2]) (by kernel_rfl) (by simp) ?_
     refine csbs (x := fun K hK => ?_) (y := ?_)
     ·go_simp
      go_at_call 22
      go_must ((with_reducible refine (dice_Pick g 40 Wa0 (HDI.out.below HKHDI0.out HDI.out.lt) (by omega) (by omega)).mono ?_); rintro e wc1 ⟨rr, rfl, hrr, -, hbc, -⟩; have HBc1 := hid (HBa0.out.trans (hbc.mono HBa0.out.size)); have HXc1 := hid ((show BoxN _ Wd.heap.size 30 #[.slice none 0 0, .slice none 0 0, .slice none 0 0] from (hbc.block _ HXa0.out.lt (by have := HD.out.size; omega)).trans HXa0.out)); clear hbc)
      (try go_wp2_with fail)
      refine hK.out _ _ (HG.out _ HBc1.out) (fun hHeld => ?_)
      clear hK K
      try simp only [Act.put, List.setIfInBounds_toArray, List.set]
      refine tkbs (i := 3) (v := ?_) (y := (Or.inl ⟨by rfl, ?_⟩)) (z := ?_)
      rotate_left
      ·(intro w' hSw; (try dsimp only at hSw); go_simp) <;> with_reducible rfl
      try simp only [Act.put, List.setIfInBounds_toArray, List.set]
      refine wpAnyH_ready (rs := [5]) (by kernel_rfl) (by simp) ?_
      refine csbs (x := fun K hK => ?_) (y := ?_)
      ·go_simp
       go_at_call 27
       go_must ((with_reducible refine (HADD.out wc1 rr HBc1.out (by omega)).mono ?_); rintro e wc2 ⟨ev9, vv9, lv9, rfl, hrx9, hbc⟩; obtain ⟨ea9, ec9, rfl, -⟩ := id hrx9.ents; obtain ⟨va9, vc9, rfl, -⟩ := id hrx9.vals; obtain ⟨lf9, ⟨la9, lc9, rfl, -⟩, -⟩ := id hrx9.lists; generalize (indexOf (putL cs (putK cs (((rr : Int), 70), ys)) (((rr : Int), 70), ys))).ents.length = n1 at *; generalize (indexOf (putL cs (putK cs (((rr : Int), 70), ys)) (((rr : Int), 70), ys))).vals.length = n2 at *; generalize (indexOf (putL cs (putK cs (((rr : Int), 70), ys)) (((rr : Int), 70), ys))).lists.length = n3 at *; have HBc2 := hid (HBc1.out.trans ((Roll.of_below hbc g).mono HBc1.out.size)); have HXc2 := hid (HXc1.out.below hbc HXc1.out.lt); have hbz := HBc1.out.size; have HRN := hid (show RdN wc1.heap.size wc2 (.slice ea9 n1 ec9) (.slice va9 n2 vc9) (.slice la9 n3 lc9) (indexOf (putL cs (putK cs (((rr : Int), 70), ys)) (((rr : Int), 70), ys))) from hrx9); clear hrx9; have HKHRN2 := hid (Below.refl wc2.heap.size wc2); have hrbHRN : Wd.heap.size < wc1.heap.size := HXc1.out.lt; clear hbc)
       (try go_wp2_with fail)
       refine hK.out _ _ (HG.out _ HBc2.out) (fun hHeld => ?_)
       clear hK K
       try simp only [Act.put, List.setIfInBounds_toArray, List.set]
       refine tkbs (i := 6) (v := ?_) (y := (Or.inl ⟨by rfl, ?_⟩)) (z := ?_)
       rotate_left
       ·(intro w' hSw; (try dsimp only at hSw); go_simp) <;> with_reducible rfl
       try simp only [Act.put, List.setIfInBounds_toArray, List.set]
       refine tkbs (i := 7) (v := ?_) (y := (Or.inl ⟨by rfl, ?_⟩)) (z := ?_)
       rotate_left
       ·(intro w' hSw; (try dsimp only at hSw); go_simp) <;> with_reducible rfl
       try simp only [Act.put, List.setIfInBounds_toArray, List.set]
       refine tkbs (i := 8) (v := ?_) (y := (Or.inl ⟨by rfl, ?_⟩)) (z := ?_)
       rotate_left
       ·(intro w' hSw; (try dsimp only at hSw); go_simp) <;> with_reducible rfl
       try simp only [Act.put, List.setIfInBounds_toArray, List.set]
       refine wpAnyH_ready (rs := [10]) (by kernel_rfl) (by simp) ?_
       refine csbs (x := fun K hK => ?_) (y := AllReadyH.nil)
       have e0 := HXc2.out.cell 0 rfl
       have f0 := HXc2.out.frozen 0
       have e1 := HXc2.out.cell 1 rfl
       have f1 := HXc2.out.frozen 1
       have e2 := HXc2.out.cell 2 rfl
       have f2 := HXc2.out.frozen 2
       have hlo : w8.heap.size ≤ Wd.heap.size := HD.out.size
       go_simp
       have g0 : BoxN _ Wd.heap.size 30 #[.slice ea9 n1 ec9, .slice none 0 0, .slice none 0 0] := HXc2.out.set 0 (.slice ea9 n1 ec9)
       have h0 := HBc2.out.trans (Roll.of_below ((Below.refl w8.heap.size _).setCell (p := ⟨Wd.heap.size, 0, none⟩) hlo (.slice ea9 n1 ec9)) g)
       have g1 : BoxN _ Wd.heap.size 30 #[.slice ea9 n1 ec9, .slice va9 n2 vc9, .slice none 0 0] := g0.set 1 (.slice va9 n2 vc9)
       have h1 := h0.trans (Roll.of_below ((Below.refl w8.heap.size _).setCell (p := ⟨Wd.heap.size, 1, none⟩) hlo (.slice va9 n2 vc9)) g)
       have g2 : BoxN _ Wd.heap.size 30 #[.slice ea9 n1 ec9, .slice va9 n2 vc9, .slice la9 n3 lc9] := g1.set 2 (.slice la9 n3 lc9)
       have h2 := h1.trans (Roll.of_below ((Below.refl w8.heap.size _).setCell (p := ⟨Wd.heap.size, 2, none⟩) hlo (.slice la9 n3 lc9)) g)
       have HGX := hid g2
       have HHX := hid h2
       have HZHRN := hid ((RdN.set ((RdN.set ((RdN.set ((RdN.later (HRN.out) HKHRN2.out)) (p := ⟨Wd.heap.size, 0, none⟩) hrbHRN (.slice ea9 n1 ec9))) (p := ⟨Wd.heap.size, 1, none⟩) hrbHRN (.slice va9 n2 vc9))) (p := ⟨Wd.heap.size, 2, none⟩) hrbHRN (.slice la9 n3 lc9)))
       clear g0 h0 e0 f0 g1 h1 e1 f1 g2 h2 e2 f2
       refine hK.out _ _ (HG.out _ HHX.out) (fun hHeld => ?_)
       clear hK K
       try simp only [Act.put, List.setIfInBounds_toArray, List.set]
       refine tkbs (i := 11) (v := ?_) (y := (Or.inl ⟨by rfl, ?_⟩)) (z := ?_)
       rotate_left
       ·(intro w' hSw; (try dsimp only at hSw); go_simp) <;> with_reducible rfl
       try simp only [Act.put, List.setIfInBounds_toArray, List.set]
       refine wpAnyH_done (by kernel_rfl) ?_ _
       go_wp2_with fail
       go_meet
       exact ⟨rr, _, ea9, va9, la9, n1, ec9, n2, vc9, n3, lc9, rfl, rfl, by omega, hlo, HHX, HGX, hid (HZHRN.out.base hbz)⟩
      exact AllReadyH.nil
     exact AllReadyH.nil
    exact AllReadyH.nil
   case rest =>
    obtain ⟨r, rb, ea9, va9, la9, n1, ec9, n2, vc9, n3, lc9, rfl, rfl, hr40, hrb, HRW, HYB, HRN⟩ := hcut
    have HBC := hid (HB8.out.trans (HRW.out.below (B' := w.heap.size) (by omega) (by omega)))
    have hwz := HRW.out.size
    obtain ⟨c9, hc9⟩ : ∃ c : Cv, c = (((r : Int), 70), ys) := ⟨_, rfl⟩
    have hn9 : ∀ x ∈ cs, refZ x ≠ refZ c9 := fun x hx e => by
     have h5 := HFR.out x hx
     have h6 := congrArg Prod.snd e
     rw [hc9] at h6
     unfold refZ at h6
     simp only at h6
     omega
    have hok9 : CvsOk (putL cs (putK cs c9) c9) := put_ok HROK.out.1 hn9 (by rw [hc9]; show (0 : Int) ≤ (r : Int) ∧ (r : Int) ≤ 1073741824; omega) (by rw [hc9]; exact HYA.out) (by rw [hc9]; show ys.length ≤ 4096; omega) (by omega)
    have hdj : ∀ v ∈ q, v ∉ c9.2 := by rw [hc9]; exact HYD.out
    rw [← hc9] at HRN
    have HQX := hid (InK.keep (w' := wc) HQ8.out fun p hp => HRW.out.cell (p := p) (by have := hp.2; omega) (by have := hp.1; omega))
    have HQD := hid (InS.rds HQX.out fun b hb => (by have := hb.2; omega : b < wc.heap.size))
    have HINX := hid (show SrcIn wc cs q (.slice ea (indexOf cs).ents.length ec) (.slice va (indexOf cs).vals.length vc) (.slice la (indexOf cs).lists.length lc) (.slice qa q.length qc) from
     ⟨HROK.out.1, (HRX8.out.keep (w' := wc) fun p hp => HRW.out.cell (p := p) (by have := hp.2; omega) (by have := hp.1; omega)).more fun k hk => (by have := hk.2; omega : k < wc.heap.size), HQD.out, HASC.out, by omega⟩)
    have HINY := hid (show SrcIn wc (putL cs (putK cs c9) c9) q (.slice ea9 n1 ec9) (.slice va9 n2 vc9) (.slice la9 n3 lc9) (.slice qa q.length qc) from
     ⟨hok9, RdIx.more HRN.out fun k hk => hk.2, HQD.out, HASC.out, by omega⟩)
    have HXC := hid (show BoxN wc w3.heap.size 30 #[.slice ea (indexOf cs).ents.length ec, .slice va (indexOf cs).vals.length vc, .slice la (indexOf cs).lists.length lc] from (HRW.out.block _ (by omega) (by omega)).trans HX8.out)
    obtain ⟨S, hS⟩ := hits_exist (overlap_sco q.length) (asc_nodupB HASC.out) (cs := cs)
    have HSX := hid hS
    have HSY := hid (put_hits (c := c9) (putK_le cs c9) hdj hS)
    have HKEY := hid (put_keys (q := q) (putK_le cs c9) c9 S n)
    have HONE := hid (HO.out.below HBC.out)
    have HT1 := hid (over_Top HINX.out n (by omega) HONE.out)
    have HTOPY := hid (fun W (hW : Below wc.heap.size wc W) => over_Top (HINY.out.later hW) n (by omega) (HONE.out.below hW))
    generalize putL cs (putK cs c9) c9 = cs2 at *
    have x0 := HXC.out.cell 0 rfl
    have x1 := HXC.out.cell 1 rfl
    have x2 := HXC.out.cell 2 rfl
    have e2 : (N1 : Int) % 6 = (n : Int) := by have := HN.out; omega
    clear hc9 hn9 hok9 hdj hS HQX HQD HINX HINY HRX8 HQ8 HRW HYS8 HADD HG HX8 HRN HD8 HO8
    go_wp2_with fail
    rw [e2]
    with_reducible refine HT1.out.mono ?_
    rintro e w11 ⟨v1, c1, H1, ds1, l1, k1, ln1, lc1, cn1, cc1, rfl, hrd1, hall1, -, hb11⟩
    have hH1 := hall1 S HSX.out
    rw [hH1] at hrd1
    have HBA := hid (hb11.alloc hb11.size (.cells #[.slice l1 ln1 lc1, .slice k1 cn1 cc1] 36))
    have hl1 : ds1.length ≤ 5 := by rw [hrd1.len, List.length_take]; omega
    have HK1 := hid (hits_key hrd1)
    have HR1 := hid ((hrd1.ms (by omega)).later ((Below.refl w11.heap.size w11).alloc (Nat.le_refl _) (.cells #[.slice l1 ln1 lc1, .slice k1 cn1 cc1] 36)))
    have hY := HYB.out.below HBA.out HYB.out.lt
    clear x0 x1 x2 hrd1 hall1 hb11 hH1 HT1
    have x0 := hY.cell 0 rfl
    have x1 := hY.cell 1 rfl
    have x2 := hY.cell 2 rfl
    clear hY
    obtain ⟨L1, hL1⟩ : ∃ n, n = ds1.length := ⟨_, rfl⟩
    rw [← hL1] at HR1 ⊢
    clear hL1
    go_wp2_with fail
    rw [e2]
    clear e2
    with_reducible refine (HTOPY.out _ HBA.out).mono ?_
    rintro e w12 ⟨v2, c2, H2, ds2, l2, k2, ln2, lc2, cn2, cc2, rfl, hrd2, hall2, -, hb12⟩
    have hH2 := hall2 _ HSY.out
    rw [hH2] at hrd2
    have HBB := hid ((HBA.out.trans (hb12.mono HBA.out.size)).alloc (HBA.out.trans (hb12.mono HBA.out.size)).size (.cells #[.slice l2 ln2 lc2, .slice k2 cn2 cc2] 36))
    have hb13 : Below w12.heap.size w12 (w12.alloc (.cells #[.slice l2 ln2 lc2, .slice k2 cn2 cc2] 36)) := (Below.refl w12.heap.size w12).alloc (Nat.le_refl _) _
    have hl2 : ds2.length ≤ 5 := by rw [hrd2.len, List.length_take]; omega
    have hk2 := hits_key hrd2
    rw [HKEY.out] at hk2
    have HSH := hid (ref_SameHitsM ((HR1.out.later hb12).later hb13) ((hrd2.ms (by omega)).later hb13) (HK1.out.trans hk2.symm))
    have HWE := hid (HBC.out.trans (HBB.out.mono HBC.out.size))
    clear x0 x1 x2 hrd2 hall2 hb12 hb13 hH2 hk2 HR1 HK1
    obtain ⟨L2, hL2⟩ : ∃ n, n = ds2.length := ⟨_, rfl⟩
    rw [← hL2] at HSH ⊢
    clear hL2
    go_wp2_with fail
    with_reducible refine HSH.out.mono ?_
    rintro e w14 ⟨rfl, hb14⟩
    have HWF := hid (HWE.out.trans (hb14.mono HWE.out.size))
    clear hb14
    go_wp2
    go_ret
    exact ⟨rfl, HWF.out⟩
end Go.Proofs.YtikiimlmoalbcaaGreatDoor
