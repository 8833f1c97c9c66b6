/- Contract of bounded.Top. -/
import Derived.Deep.RegionHeld3
import Derived.Deep.Cut
import Derived.Deep.CutRange
import Derived.Test.YtikiimlmoalbcaaGreatDoorOOtbg
set_option linter.unusedVariables false
set_option linter.unusedSimpArgs false
namespace Go.Proofs.YtikiimlmoalbcaaGreatDoor
open Go.RowKit
theorem tkbh {P : Program} {ops : Array Oper} {Q : Exit → Act → World → Prop} {md : Region.Mode} {S : World → Prop} {i : Nat} {oi : Oper} {v : Value} {fuel : Nat} {listed : Array Bool} {a : Act} {w : World} (a1 : ops[i]? = some oi := by simp only [List.getElem?_toArray, List.getElem?_cons_zero, List.getElem?_cons_succ]; rfl)
    (a2 : Region.noSelect ops = true := by kernel_rfl) (a3 : Region.free md ops listed i = true := by kernel_rfl) (a4 : (Region.ready md ops listed).contains i = true := by kernel_rfl) (a5 : ∀ (c : List PanicEntry) (a : Act) (w : World), Q (Exit.panic c) (a.put oi.dst v) w → Q (Exit.panic c) a w := by intro _ _ _ h; exact h)
    (y : YieldsIf P ops S oi v a) (a6 : S w := by assumption) (z : wpAnyH P md ops Q S fuel (listed.setIfInBounds i true) (a.put oi.dst v) w) : wpAnyH P md ops Q S (fuel + 1) listed a w := wpAnyH_take a1 a2 a3 a4 a5 y a6 z
theorem csbh {P : Program} {ops : Array Oper} {Q : Exit → Act → World → Prop} {md : Region.Mode} {S : World → Prop} {fuel : Nat} {listed : Array Bool} {a : Act} {w : World} {i : Nat} {o : Oper} {rs : List Nat} (a1 : ops[i]? = some o := by simp only [List.getElem?_toArray, List.getElem?_cons_zero, List.getElem?_cons_succ]; rfl)
    (x : ∀ (K' : Act → World → Prop), Shut (∀ (a : Act) (w : World), S w → (S w → wpAnyH P md ops Q S fuel (listed.setIfInBounds i true) a w) → K' a w) → if Region.wanted o (yielded ops a.tmps) = true then Oper.wp P o a w K' Q else K' (a.put o.dst undef) w)
    (y : AllReadyH P md ops Q S fuel listed a w rs) : AllReadyH P md ops Q S fuel listed a w (i :: rs) := AllReadyH.cons a1 x y
set_option maxRecDepth 100000 in
set_option maxHeartbeats 8000000 in
theorem bnd_Top {w : World} {cs : List Cv} {q : List ByteArray} {ev vv lv qv : Value} {ff : Fn} {fa fc : Array Value} {den : Nat → Nat → Nat} (hin : SrcIn w cs q ev vv lv qv) (hs : ScoOk w (.func ff fa fc) q.length den) (k : Nat) (hk2 : k ≤ 1099511627776) (ho : Fr.OneAt w) :
  Calls Tryz.prog 53 #[.agg #[ev, vv, lv], qv, .int .i64 (k : Int), .func ff fa fc] w (TopP w den cs q k) := by
 have hql := hin.ql
 have hE := hin.ok.many
 have hnd : q.Nodup := asc_nodupB hin.asc
 obtain ⟨ea, ec, rfl, -⟩ := id hin.rd.ents
 obtain ⟨va0, vc0, rfl, -⟩ := id hin.rd.vals
 obtain ⟨lf, ⟨la0, lc0, rfl, -⟩, -⟩ := id hin.rd.lists
 obtain ⟨qa, qc, rfl, -⟩ := id hin.qrd
 have HIN := hid hin
 have HS := hid hs
 have HO := hid ho
 have HND := hid hnd
 clear hin hs ho hnd
 have hB0 : Below w.heap.size w (((w.alloc (.cells #[.slice ea (indexOf cs).ents.length ec, .slice va0 (indexOf cs).vals.length vc0, .slice la0 (indexOf cs).lists.length lc0] 30)).alloc (.cells #[.int .i64 (k : Int)] 3)).alloc (.cells #[.slice none 0 0, .slice none 0 0] 36)) := (((Below.refl w.heap.size w).alloc (Nat.le_refl _) _).alloc (by rw [World.size_alloc]; omega) _).alloc (by rw [World.size_alloc, World.size_alloc]; omega) _
 have hX0 : BoxN (((w.alloc (.cells #[.slice ea (indexOf cs).ents.length ec, .slice va0 (indexOf cs).vals.length vc0, .slice la0 (indexOf cs).lists.length lc0] 30)).alloc (.cells #[.int .i64 (k : Int)] 3)).alloc (.cells #[.slice none 0 0, .slice none 0 0] 36)) w.heap.size 30 #[.slice ea (indexOf cs).ents.length ec, .slice va0 (indexOf cs).vals.length vc0, .slice la0 (indexOf cs).lists.length lc0] := ((BoxN.new w #[.slice ea (indexOf cs).ents.length ec, .slice va0 (indexOf cs).vals.length vc0, .slice la0 (indexOf cs).lists.length lc0] 30).alloc _).alloc _
 have hX1 := (BoxN.new (w.alloc (.cells #[.slice ea (indexOf cs).ents.length ec, .slice va0 (indexOf cs).vals.length vc0, .slice la0 (indexOf cs).lists.length lc0] 30)) #[.int .i64 (k : Int)] 3).alloc (.cells #[.slice none 0 0, .slice none 0 0] 36)
 have hX2 := BoxN.new ((w.alloc (.cells #[.slice ea (indexOf cs).ents.length ec, .slice va0 (indexOf cs).vals.length vc0, .slice la0 (indexOf cs).lists.length lc0] 30)).alloc (.cells #[.int .i64 (k : Int)] 3)) #[.slice none 0 0, .slice none 0 0] 36
 simp only [World.size_alloc] at hX1 hX2
 obtain ⟨W0, hW0⟩ : ∃ V, V = (((w.alloc (.cells #[.slice ea (indexOf cs).ents.length ec, .slice va0 (indexOf cs).vals.length vc0, .slice la0 (indexOf cs).lists.length lc0] 30)).alloc (.cells #[.int .i64 (k : Int)] 3)).alloc (.cells #[.slice none 0 0, .slice none 0 0] 36)) := ⟨_, rfl⟩
 rw [← hW0] at hB0 hX0 hX1 hX2
 have hz0 : w.heap.size + 1 + 1 < W0.heap.size := hX2.lt
 have x0 := hX0.cell 0 rfl
 have x1 := hX0.cell 1 rfl
 have x2 := hX0.cell 2 rfl
 have c0 := hX1.cell 0 rfl
 have HB0 := hid hB0
 have HX1 := hid hX1
 have HX2 := hid hX2
 clear hB0 hX0 hX1
 by_cases hk0 : k = 0
 ·have hki : ((k : Int) == 0) = true := by rw [hk0]; rfl
  have HK0 := hid hk0
  clear hk0
  have y0 := hX2.cell 0 rfl
  have y1 := hX2.cell 1 rfl
  have f0 := hX2.frozen 0
  have f1 := hX2.frozen 1
  clear hX2
  have HG2 := hid ((HX2.out.set 0 (.slice none 0 0)).set 1 (.slice none 0 0))
  have HRES : Hid (TopP w den cs q k (.returned (.tuple #[.slice none 0 0, .agg #[.slice none 0 0, .slice none 0 0]])) ((W0.setCell ⟨w.heap.size + 1 + 1, 0, none⟩ (.slice none 0 0)).setCell ⟨w.heap.size + 1 + 1, 1, none⟩ (.slice none 0 0))) := hid
   ⟨none, 0, [], [], none, none, 0, 0, 0, 0, rfl, HtsRd.nil0 _ _ _ _ _, fun S _ => by rw [HK0.out]; rfl, .inl ⟨HK0.out, rfl, rfl, rfl, rfl⟩, (HB0.out.setCell (p := ⟨w.heap.size + 1 + 1, 0, none⟩) (show w.heap.size ≤ w.heap.size + 1 + 1 by omega) _).setCell (p := ⟨w.heap.size + 1 + 1, 1, none⟩) (show w.heap.size ≤ w.heap.size + 1 + 1 by omega) _⟩
  go_enter Tryz.func53, Tryz.ntmps53
  go_upto_region 1 with fail
  rw [← hW0]
  clear hW0
  go_wp2
  have z0 := HG2.out.cell 0 rfl
  have z1 := HG2.out.cell 1 rfl
  refine bodyPost_ret (v := .tuple #[.slice none 0 0, .agg #[.slice none 0 0, .slice none 0 0]]) (by simp [results, Tryz.results53, go_sem, z0, z1]) rfl HRES.out
 ·have hk1 : 0 < k := by omega
  have hki : ((k : Int) == 0) = false := by rw [beq_eq_false_iff_ne]; omega
  have hki2 : ¬ (k : Int) = 0 := by omega
  clear hX2 hk0
  have HI0 := hid (HIN.out.later HB0.out)
  have HBG := hid (src_begin cs q _ _ _ _ ff fa fc W0 HI0.out)
  go_enter Tryz.func53, Tryz.ntmps53
  go_upto_region 1 with fail
  rw [← hW0]
  clear hW0
  go_wp2_with fail
  with_reducible refine HBG.out.mono ?_
  rintro e w1 ⟨sb, lb, xa, xc, cap, pl, rfl, hst1⟩
  have hsb := hst1.ge
  have hlb := hst1.low.lt
  have hsl : sb < w1.heap.size := BoxN.lt hst1.box
  have HB1 := hid hst1.below
  have HST1 := hid (hst1.later ((Below.refl w1.heap.size w1).alloc (Nat.le_refl _) (.cells #[.pointer (some ⟨sb, 0, none⟩)] 147)))
  have HT := hid (BoxN.new w1 #[.pointer (some ⟨sb, 0, none⟩)] 147)
  have HB2 := hid (hst1.below.alloc hst1.below.size (.cells #[.pointer (some ⟨sb, 0, none⟩)] 147))
  have hw1 := hst1.below.size
  clear hst1 x0 x1 x2 c0
  go_upto_region 4 with fail
  obtain ⟨w2, hw2⟩ : ∃ V, V = w1.alloc (.cells #[.pointer (some ⟨sb, 0, none⟩)] 147) := ⟨_, rfl⟩
  have hz2 : w2.heap.size = w1.heap.size + 1 := by rw [hw2, World.size_alloc]
  have hz12 : w1.heap.size < w2.heap.size := by omega
  rw [← hw2] at HST1 HT HB2 ⊢
  clear hw2 hz2
  have hlb2 : lb < w1.heap.size := by
   have h1 := HST1.out.low.lt
   have h2 := HB1.out.size
   omega
  have HG := hid (fun W (hW : Bar2 w2 sb lb W) => (hW.box HT.out (by omega) (by omega)).cell 0 rfl)
  have HX1B := hid (HX1.out.below HB2.out HX1.out.lt)
  have HONE := hid (fun W (hW : Bar2 w2 sb lb W) => HO.out.below ((HB0.out.trans (HB2.out.mono (by omega))).trans (hW.below (by omega) (by omega) (by omega))))
  have HSC := hid (show ScoOk W0 (.func ff fa fc) q.length den from ⟨HS.out.sco, HS.out.small, fun n s W h1 h2 h3 hW => HS.out.call n s W h1 h2 h3 (HB0.out.trans (hW.mono (by omega)))⟩)
  have HRUN := hid (fun W (hW : Bar2 w2 sb lb W) (hS0 : SrcSt W0 W cs q _ _ _ _ (.func ff fa fc) sb lb xa xc cap pl 0) => run_top HI0.out hS0 (GoodT den cs (vsOf cs pl) k) ⟨w1.heap.size, 0, none⟩ ⟨w.heap.size + 1, 0, none⟩ (fun r V hS hV => top_rest HI0.out hS HSC.out hk1 hk2 ((hW.trans hV).box HT.out (by omega) (by omega)) ((hW.trans hV).box HX1B.out (by omega) (by omega)) (HONE.out V (hW.trans hV))))
  have HHITS := hid (fun W r cols cv B (hW : Bar2 w2 sb lb W) (hS : SrcSt W0 W cs q _ _ _ _ (.func ff fa fc) sb lb xa xc cap pl r) (hc : ColsAt cs B W cv cols) => src_hits HI0.out hS HSC.out (hc.mem.more fun k hk => hk.2) hc.up hc.len (HONE.out W hW))
  go_cut [11, 12] from 20 to 27 (fun s11 s12 wx => ∃ (rb : Nat) (va : Option Addr) (vc : Nat) (HL : List Nat) (ds : List Mq) (r : Nat) (sa : Option Addr) (sc : Nat) (ca : Option Addr) (cc T : Nat) (cols : List Nat), s11 = .slice va ds.length vc ∧ s12 = .pointer (some ⟨rb, 0, none⟩) ∧ w2.heap.size ≤ rb ∧ w2.heap.size ≤ T ∧ Hid (Bar2 w2 sb lb wx) ∧ Hid (BoxN wx rb 36 #[.slice sa r sc, .slice ca cols.length cc]) ∧ Hid (HtsOf T wx (.slice va ds.length vc) den cs (comC cs q) HL ds) ∧ Hid (InN wx (fun k => w2.heap.size ≤ k ∧ k < T) (.slice sa r sc) (sortN (pl.take r))) ∧ Hid (InN wx (fun k => w2.heap.size ≤ k ∧ k < T) (.slice ca cols.length cc) cols) ∧ Hid (cols.Pairwise (· ≤ ·) ∧ (∀ c ∈ cols, c < cs.length) ∧ cols.length ≤ 1048576) ∧ Hid (HL.Pairwise (befH den (sizeC cs) (comC cs q)) ∧ ∀ c, c ∈ HL ↔ c < cs.length ∧ 0 < comC cs q c ∧ knownB cs (vsOf cs pl) r cols c = true) ∧ Hid (GoodT den cs (vsOf cs pl) k r cols ∨ (r = pl.length ∧ cols = [])) ∧ Hid (r ≤ pl.length) ∧ Hid (T ≤ wx.heap.size))
  case first =>
   have HD := hid ((Bar2.of sb lb (Below.refl w2.heap.size w2)).drew)
   have HS0 := hid (HST1.out.later ((Below.refl _ _).drew))
   have HKHS0 := hid (Below.refl w2.drew.heap.size w2.drew)
   refine wp_region_held_drew (S := fun W => W.cell? ⟨w1.heap.size, 0, none⟩ = some (.pointer (some ⟨sb, 0, none⟩))) (by kernel_rfl) (HG.out _ HD.out) (fun hHeld => ?_)
   generalize w2.drew = Wd at *
   refine tkbh (i := 0) (v := ?_) (y := (Or.inl ⟨by rfl, ?_⟩)) (z := ?_)
   rotate_left
   ·(intro w' hSw; (try dsimp only at hSw); go_simp) <;> with_reducible rfl
   try simp only [Act.put, List.setIfInBounds_toArray, List.set]
   refine tkbh (i := 1) (v := ?_) (y := (Or.inl ⟨by rfl, ?_⟩)) (z := ?_)
   rotate_left
   ·(intro w' hSw; (try dsimp only at hSw); go_simp) <;> with_reducible rfl
   try simp only [Act.put, List.setIfInBounds_toArray, List.set]
   refine tkbh (i := 2) (v := ?_) (y := (Or.inl ⟨by rfl, ?_⟩)) (z := ?_)
   rotate_left
   ·(intro w' hSw; (try dsimp only at hSw); go_simp) <;> with_reducible rfl
   try simp only [Act.put, List.setIfInBounds_toArray, List.set]
   refine wpAnyH_ready (rs := [3, 8]) (by kernel_rfl) (by simp) ?_
   refine csbh (x := fun K hK => ?_) (y := ?_)
   ·go_simp
    go_at_call 106
    go_must ((with_reducible refine (HRUN.out Wd HD.out (SrcSt.later HS0.out HKHS0.out)).mono ?_); rintro e wc0 ⟨cols, cv, r, rfl, hco, hst, hbar, hgd⟩; obtain ⟨ca, cc, rfl, -⟩ := id hco.mem; have HGD := hid hgd; have HBc0 := hid (HD.out.trans hbar); have HST := hid hst; clear hst; have HKHST0 := hid (Below.refl wc0.heap.size wc0); have hbz := HD.out.size; have HCF := hid (⟨hco.up, hco.lt, hco.len⟩ : cols.Pairwise (· ≤ ·) ∧ (∀ c ∈ cols, c < cs.length) ∧ cols.length ≤ 1048576); have HCO := hid hco; have HKHCO0 := hid (Below.refl wc0.heap.size wc0); have HCT := hid (show InT wc0 Wd.heap.size wc0.heap.size (.slice ca cols.length cc) cols from ⟨hco.mem, Nat.le_refl _⟩); clear hco; have HKHCT0 := hid (Below.refl wc0.heap.size wc0); clear hbar hgd)
    (try go_wp2_with fail)
    refine hK.out _ _ (HG.out _ HBc0.out) (fun hHeld => ?_)
    clear hK K
    try simp only [Act.put, List.setIfInBounds_toArray, List.set]
    refine wpAnyH_ready (rs := [4, 8]) (by kernel_rfl) (by simp) ?_
    refine csbh (x := fun K hK => ?_) (y := ?_)
    ·go_simp
     go_at_call 105
     go_must ((with_reducible refine (HHITS.out wc0 r cols _ _ HBc0.out (SrcSt.later HST.out HKHST0.out) (ColsAt.later HCO.out HKHCO0.out)).mono ?_); rintro e wc1 ⟨v, HL, ds, sa, sc, T, rfl, hT1, hT2, hH, hsrt, hmem, hI, hbc⟩; obtain ⟨va, vc, rfl⟩ := hH.row.slice; have HM := hid (⟨hsrt, hmem⟩ : HL.Pairwise (befH den (sizeC cs) (comC cs q)) ∧ ∀ c, c ∈ HL ↔ c < cs.length ∧ 0 < comC cs q c ∧ knownB cs (vsOf cs pl) r cols c = true); clear hsrt hmem; have HBc1 := hid (HBc0.out.trans (Bar2.of _ _ hbc)); have HKHST1 := hid (HKHST0.out.trans (hbc.mono HKHST0.out.size)); have HKHCO1 := hid (HKHCO0.out.trans (hbc.mono HKHCO0.out.size)); have HKHCT1 := hid (HKHCT0.out.trans (hbc.mono HKHCT0.out.size)); have hbz2 := HBc0.out.size; have hTc := Nat.le_trans HKHCT0.out.size hT1; have HH := hid hH; clear hH; have HKHH1 := hid (Below.refl wc1.heap.size wc1); have HI := hid (show InT wc1 wc0.heap.size T (.slice sa r sc) (sortN (pl.take r)) from ⟨hI, hT2⟩); clear hI; have HKHI1 := hid (Below.refl wc1.heap.size wc1); clear hbc)
     (try go_wp2_with fail)
     refine hK.out _ _ (HG.out _ HBc1.out) (fun hHeld => ?_)
     clear hK K
     try simp only [Act.put, List.setIfInBounds_toArray, List.set]
     refine tkbh (i := 5) (v := ?_) (y := (Or.inl ⟨by rfl, ?_⟩)) (z := ?_)
     rotate_left
     ·(intro w' hSw; (try dsimp only at hSw); go_simp) <;> with_reducible rfl
     try simp only [Act.put, List.setIfInBounds_toArray, List.set]
     refine tkbh (i := 6) (v := ?_) (y := (Or.inl ⟨by rfl, ?_⟩)) (z := ?_)
     rotate_left
     ·(intro w' hSw; (try dsimp only at hSw); go_simp) <;> with_reducible rfl
     try simp only [Act.put, List.setIfInBounds_toArray, List.set]
     refine tkbh (i := 7) (v := ?_) (y := (Or.inl ⟨by rfl, ?_⟩)) (z := ?_)
     rotate_left
     ·(intro w' hSw; (try dsimp only at hSw); go_simp) <;> with_reducible rfl
     try simp only [Act.put, List.setIfInBounds_toArray, List.set]
     refine wpAnyH_ready (rs := [8]) (by kernel_rfl) (by simp) ?_
     refine csbh (x := fun K hK => ?_) (y := ?_)
     ·go_simp
      have HBa2 := hid (HBc1.out.alloc HBc1.out.size (.cells #[.slice none 0 0, .slice none 0 0] 36))
      have HXa2 := hid (BoxN.new wc1 #[.slice none 0 0, .slice none 0 0] 36)
      have hloHST : wc0.heap.size ≤ wc1.heap.size := HKHST1.out.size
      have HKHST2 := hid (HKHST1.out.alloc HKHST1.out.size (.cells #[.slice none 0 0, .slice none 0 0] 36))
      have hloHCO : wc0.heap.size ≤ wc1.heap.size := HKHCO1.out.size
      have HKHCO2 := hid (HKHCO1.out.alloc HKHCO1.out.size (.cells #[.slice none 0 0, .slice none 0 0] 36))
      have hloHCT : wc0.heap.size ≤ wc1.heap.size := HKHCT1.out.size
      have HKHCT2 := hid (HKHCT1.out.alloc HKHCT1.out.size (.cells #[.slice none 0 0, .slice none 0 0] 36))
      have hloHH : wc1.heap.size ≤ wc1.heap.size := HKHH1.out.size
      have HKHH2 := hid (HKHH1.out.alloc HKHH1.out.size (.cells #[.slice none 0 0, .slice none 0 0] 36))
      have hloHI : wc1.heap.size ≤ wc1.heap.size := HKHI1.out.size
      have HKHI2 := hid (HKHI1.out.alloc HKHI1.out.size (.cells #[.slice none 0 0, .slice none 0 0] 36))
      refine hK.out _ _ (HG.out _ HBa2.out) (fun hHeld => ?_)
      clear hK K
      try simp only [Act.put, List.setIfInBounds_toArray, List.set]
      obtain ⟨Wa2, hWa2⟩ : ∃ V, V = World.alloc wc1 (.cells #[.slice none 0 0, .slice none 0 0] 36) := ⟨_, rfl⟩
      rw [← hWa2] at HBa2 HXa2 HKHST2 HKHCO2 HKHCT2 HKHH2 HKHI2 hHeld ⊢
      clear hWa2
      refine tkbh (i := 9) (v := ?_) (y := (Or.inl ⟨by rfl, ?_⟩)) (z := ?_)
      rotate_left
      ·(intro w' hSw; (try dsimp only at hSw); go_simp) <;> with_reducible rfl
      try simp only [Act.put, List.setIfInBounds_toArray, List.set]
      refine wpAnyH_ready (rs := [10]) (by kernel_rfl) (by simp) ?_
      refine csbh (x := fun K hK => ?_) (y := AllReadyH.nil)
      have e0 := HXa2.out.cell 0 rfl
      have f0 := HXa2.out.frozen 0
      have e1 := HXa2.out.cell 1 rfl
      have f1 := HXa2.out.frozen 1
      have hlo : w2.heap.size ≤ wc1.heap.size := HBc1.out.size
      go_simp
      have g0 : BoxN _ wc1.heap.size 36 #[.slice sa r sc, .slice none 0 0] := HXa2.out.set 0 (.slice sa r sc)
      have h0 := HBa2.out.setCell (p := ⟨wc1.heap.size, 0, none⟩) hlo (.slice sa r sc)
      have g1 : BoxN _ wc1.heap.size 36 #[.slice sa r sc, .slice ca cols.length cc] := g0.set 1 (.slice ca cols.length cc)
      have h1 := h0.setCell (p := ⟨wc1.heap.size, 1, none⟩) hlo (.slice ca cols.length cc)
      have HGX := hid g1
      have HHX := hid h1
      have HZHCT := hid (InT.later (HCT.out) ((HKHCT2.out.setCell (p := ⟨wc1.heap.size, 0, none⟩) hloHCT (.slice sa r sc)).setCell (p := ⟨wc1.heap.size, 1, none⟩) hloHCT (.slice ca cols.length cc)) (Nat.le_refl _))
      have HZHH := hid (HtsOf.later (HH.out) ((HKHH2.out.setCell (p := ⟨wc1.heap.size, 0, none⟩) hloHH (.slice sa r sc)).setCell (p := ⟨wc1.heap.size, 1, none⟩) hloHH (.slice ca cols.length cc)))
      have HZHI := hid (InT.later (HI.out) ((HKHI2.out.setCell (p := ⟨wc1.heap.size, 0, none⟩) hloHI (.slice sa r sc)).setCell (p := ⟨wc1.heap.size, 1, none⟩) hloHI (.slice ca cols.length cc)) hT2)
      clear g0 h0 e0 f0 g1 h1 e1 f1
      refine hK.out _ _ (HG.out _ HHX.out) (fun hHeld => ?_)
      clear hK K
      try simp only [Act.put, List.setIfInBounds_toArray, List.set]
      refine wpAnyH_done (by kernel_rfl) ?_ _
      go_wp2_with fail
      go_meet
      exact ⟨_, va, vc, HL, ds, r, sa, sc, ca, cc, T, cols, rfl, rfl, hlo, Nat.le_trans hbz2 hT1, HHX, HGX, HZHH, hid (InK.more HZHI.out.1 fun k hk => ⟨Nat.le_trans hbz2 hk.1, hk.2⟩), hid (InK.more HZHCT.out.1 fun k hk => ⟨Nat.le_trans hbz hk.1, Nat.lt_of_lt_of_le hk.2 hTc⟩), HCF, HM, HGD, hid HST.out.le, hid HZHI.out.2⟩
     exact AllReadyH.nil
    refine csbh (x := fun K hK => ?_) (y := ?_)
    ·go_simp
     have HBa1 := hid (HBc0.out.alloc HBc0.out.size (.cells #[.slice none 0 0, .slice none 0 0] 36))
     have HXa1 := hid (BoxN.new wc0 #[.slice none 0 0, .slice none 0 0] 36)
     have hloHST : wc0.heap.size ≤ wc0.heap.size := HKHST0.out.size
     have HKHST1 := hid (HKHST0.out.alloc HKHST0.out.size (.cells #[.slice none 0 0, .slice none 0 0] 36))
     have hloHCO : wc0.heap.size ≤ wc0.heap.size := HKHCO0.out.size
     have HKHCO1 := hid (HKHCO0.out.alloc HKHCO0.out.size (.cells #[.slice none 0 0, .slice none 0 0] 36))
     have hloHCT : wc0.heap.size ≤ wc0.heap.size := HKHCT0.out.size
     have HKHCT1 := hid (HKHCT0.out.alloc HKHCT0.out.size (.cells #[.slice none 0 0, .slice none 0 0] 36))
     refine hK.out _ _ (HG.out _ HBa1.out) (fun hHeld => ?_)
     clear hK K
     try simp only [Act.put, List.setIfInBounds_toArray, List.set]
     obtain ⟨Wa1, hWa1⟩ : ∃ V, V = World.alloc wc0 (.cells #[.slice none 0 0, .slice none 0 0] 36) := ⟨_, rfl⟩
     rw [← hWa1] at HBa1 HXa1 HKHST1 HKHCO1 HKHCT1 hHeld ⊢
     clear hWa1
     refine wpAnyH_ready (rs := [4]) (by kernel_rfl) (by simp) ?_
     refine csbh (x := fun K hK => ?_) (y := ?_)
     ·go_simp
      go_at_call 105
      go_must ((with_reducible refine (HHITS.out Wa1 r cols _ _ HBa1.out (SrcSt.later HST.out HKHST1.out) (ColsAt.later HCO.out HKHCO1.out)).mono ?_); rintro e wc2 ⟨v, HL, ds, sa, sc, T, rfl, hT1, hT2, hH, hsrt, hmem, hI, hbc⟩; obtain ⟨va, vc, rfl⟩ := hH.row.slice; have HM := hid (⟨hsrt, hmem⟩ : HL.Pairwise (befH den (sizeC cs) (comC cs q)) ∧ ∀ c, c ∈ HL ↔ c < cs.length ∧ 0 < comC cs q c ∧ knownB cs (vsOf cs pl) r cols c = true); clear hsrt hmem; have HBc2 := hid (HBa1.out.trans (Bar2.of _ _ hbc)); have HXc2 := hid (HXa1.out.below hbc HXa1.out.lt); have HKHST2 := hid (HKHST1.out.trans (hbc.mono HKHST1.out.size)); have HKHCO2 := hid (HKHCO1.out.trans (hbc.mono HKHCO1.out.size)); have HKHCT2 := hid (HKHCT1.out.trans (hbc.mono HKHCT1.out.size)); have hbz2 := HBa1.out.size; have hTc := Nat.le_trans HKHCT1.out.size hT1; have HH := hid hH; clear hH; have HKHH2 := hid (Below.refl wc2.heap.size wc2); have hrbHH : wc0.heap.size < Wa1.heap.size := HXa1.out.lt; have HI := hid (show InT wc2 Wa1.heap.size T (.slice sa r sc) (sortN (pl.take r)) from ⟨hI, hT2⟩); clear hI; have HKHI2 := hid (Below.refl wc2.heap.size wc2); have hrbHI : wc0.heap.size < Wa1.heap.size := HXa1.out.lt; clear hbc)
      (try go_wp2_with fail)
      refine hK.out _ _ (HG.out _ HBc2.out) (fun hHeld => ?_)
      clear hK K
      try simp only [Act.put, List.setIfInBounds_toArray, List.set]
      refine tkbh (i := 5) (v := ?_) (y := (Or.inl ⟨by rfl, ?_⟩)) (z := ?_)
      rotate_left
      ·(intro w' hSw; (try dsimp only at hSw); go_simp) <;> with_reducible rfl
      try simp only [Act.put, List.setIfInBounds_toArray, List.set]
      refine tkbh (i := 6) (v := ?_) (y := (Or.inl ⟨by rfl, ?_⟩)) (z := ?_)
      rotate_left
      ·(intro w' hSw; (try dsimp only at hSw); go_simp) <;> with_reducible rfl
      try simp only [Act.put, List.setIfInBounds_toArray, List.set]
      refine tkbh (i := 7) (v := ?_) (y := (Or.inl ⟨by rfl, ?_⟩)) (z := ?_)
      rotate_left
      ·(intro w' hSw; (try dsimp only at hSw); go_simp) <;> with_reducible rfl
      try simp only [Act.put, List.setIfInBounds_toArray, List.set]
      refine tkbh (i := 9) (v := ?_) (y := (Or.inl ⟨by rfl, ?_⟩)) (z := ?_)
      rotate_left
      ·(intro w' hSw; (try dsimp only at hSw); go_simp) <;> with_reducible rfl
      try simp only [Act.put, List.setIfInBounds_toArray, List.set]
      refine wpAnyH_ready (rs := [10]) (by kernel_rfl) (by simp) ?_
      refine csbh (x := fun K hK => ?_) (y := AllReadyH.nil)
      have e0 := HXc2.out.cell 0 rfl
      have f0 := HXc2.out.frozen 0
      have e1 := HXc2.out.cell 1 rfl
      have f1 := HXc2.out.frozen 1
      have hlo : w2.heap.size ≤ wc0.heap.size := HBc0.out.size
      go_simp
      have g0 : BoxN _ wc0.heap.size 36 #[.slice sa r sc, .slice none 0 0] := HXc2.out.set 0 (.slice sa r sc)
      have h0 := HBc2.out.setCell (p := ⟨wc0.heap.size, 0, none⟩) hlo (.slice sa r sc)
      have g1 : BoxN _ wc0.heap.size 36 #[.slice sa r sc, .slice ca cols.length cc] := g0.set 1 (.slice ca cols.length cc)
      have h1 := h0.setCell (p := ⟨wc0.heap.size, 1, none⟩) hlo (.slice ca cols.length cc)
      have HGX := hid g1
      have HHX := hid h1
      have HZHCT := hid (InT.later (HCT.out) ((HKHCT2.out.setCell (p := ⟨wc0.heap.size, 0, none⟩) hloHCT (.slice sa r sc)).setCell (p := ⟨wc0.heap.size, 1, none⟩) hloHCT (.slice ca cols.length cc)) (Nat.le_refl _))
      have HZHH := hid ((HtsOf.set ((HtsOf.set ((HtsOf.later (HH.out) HKHH2.out)) (x := ⟨wc0.heap.size, 0, none⟩) (Nat.lt_of_lt_of_le hrbHH hT1) (.slice sa r sc))) (x := ⟨wc0.heap.size, 1, none⟩) (Nat.lt_of_lt_of_le hrbHH hT1) (.slice ca cols.length cc)))
      have HZHI := hid ((InT.set ((InT.set ((InT.later (HI.out) HKHI2.out hT2)) (p := ⟨wc0.heap.size, 0, none⟩) hrbHI (.slice sa r sc))) (p := ⟨wc0.heap.size, 1, none⟩) hrbHI (.slice ca cols.length cc)))
      clear g0 h0 e0 f0 g1 h1 e1 f1
      refine hK.out _ _ (HG.out _ HHX.out) (fun hHeld => ?_)
      clear hK K
      try simp only [Act.put, List.setIfInBounds_toArray, List.set]
      refine wpAnyH_done (by kernel_rfl) ?_ _
      go_wp2_with fail
      go_meet
      exact ⟨_, va, vc, HL, ds, r, sa, sc, ca, cc, T, cols, rfl, rfl, hlo, Nat.le_trans hbz2 hT1, HHX, HGX, HZHH, hid (InK.more HZHI.out.1 fun k hk => ⟨Nat.le_trans hbz2 hk.1, hk.2⟩), hid (InK.more HZHCT.out.1 fun k hk => ⟨Nat.le_trans hbz hk.1, Nat.lt_of_lt_of_le hk.2 hTc⟩), HCF, HM, HGD, hid HST.out.le, hid HZHI.out.2⟩
     exact AllReadyH.nil
    exact AllReadyH.nil
   refine csbh (x := fun K hK => ?_) (y := ?_)
   ·go_simp
    have HBa0 := hid (HD.out.alloc HD.out.size (.cells #[.slice none 0 0, .slice none 0 0] 36))
    have HXa0 := hid (BoxN.new Wd #[.slice none 0 0, .slice none 0 0] 36)
    have hloHS0 : Wd.heap.size ≤ Wd.heap.size := HKHS0.out.size
    have HKHS00 := hid (HKHS0.out.alloc HKHS0.out.size (.cells #[.slice none 0 0, .slice none 0 0] 36))
    refine hK.out _ _ (HG.out _ HBa0.out) (fun hHeld => ?_)
    clear hK K
    try simp only [Act.put, List.setIfInBounds_toArray, List.set]
    obtain ⟨Wa0, hWa0⟩ : ∃ V, V = World.alloc Wd (.cells #[.slice none 0 0, .slice none 0 0] 36) := ⟨_, rfl⟩
    rw [← hWa0] at HBa0 HXa0 HKHS00 hHeld ⊢
    clear hWa0
    refine wpAnyH_ready (rs := [3]) (by kernel_rfl) (by simp) ?_
    refine csbh (x := fun K hK => ?_) (y := ?_)
    ·go_simp
     go_at_call 106
     go_must ((with_reducible refine (HRUN.out Wa0 HBa0.out (SrcSt.later HS0.out HKHS00.out)).mono ?_); rintro e wc1 ⟨cols, cv, r, rfl, hco, hst, hbar, hgd⟩; obtain ⟨ca, cc, rfl, -⟩ := id hco.mem; have HGD := hid hgd; have HBc1 := hid (HBa0.out.trans hbar); have HXc1 := hid (Bar2.box hbar HXa0.out (by have h1 := HD.out.size; omega) (by have h1 := HD.out.size; omega)); have HST := hid hst; clear hst; have HKHST1 := hid (Below.refl wc1.heap.size wc1); have hrbHST : Wd.heap.size < Wa0.heap.size := HXa0.out.lt; have hbz := HBa0.out.size; have HCF := hid (⟨hco.up, hco.lt, hco.len⟩ : cols.Pairwise (· ≤ ·) ∧ (∀ c ∈ cols, c < cs.length) ∧ cols.length ≤ 1048576); have HCO := hid hco; have HKHCO1 := hid (Below.refl wc1.heap.size wc1); have hrbHCO : Wd.heap.size < Wa0.heap.size := HXa0.out.lt; have HCT := hid (show InT wc1 Wa0.heap.size wc1.heap.size (.slice ca cols.length cc) cols from ⟨hco.mem, Nat.le_refl _⟩); clear hco; have HKHCT1 := hid (Below.refl wc1.heap.size wc1); have hrbHCT : Wd.heap.size < Wa0.heap.size := HXa0.out.lt; clear hbar hgd)
     (try go_wp2_with fail)
     refine hK.out _ _ (HG.out _ HBc1.out) (fun hHeld => ?_)
     clear hK K
     try simp only [Act.put, List.setIfInBounds_toArray, List.set]
     refine wpAnyH_ready (rs := [4]) (by kernel_rfl) (by simp) ?_
     refine csbh (x := fun K hK => ?_) (y := ?_)
     ·go_simp
      go_at_call 105
      go_must ((with_reducible refine (HHITS.out wc1 r cols _ _ HBc1.out (SrcSt.later HST.out HKHST1.out) (ColsAt.later HCO.out HKHCO1.out)).mono ?_); rintro e wc2 ⟨v, HL, ds, sa, sc, T, rfl, hT1, hT2, hH, hsrt, hmem, hI, hbc⟩; obtain ⟨va, vc, rfl⟩ := hH.row.slice; have HM := hid (⟨hsrt, hmem⟩ : HL.Pairwise (befH den (sizeC cs) (comC cs q)) ∧ ∀ c, c ∈ HL ↔ c < cs.length ∧ 0 < comC cs q c ∧ knownB cs (vsOf cs pl) r cols c = true); clear hsrt hmem; have HBc2 := hid (HBc1.out.trans (Bar2.of _ _ hbc)); have HXc2 := hid (HXc1.out.below hbc HXc1.out.lt); have HKHST2 := hid (HKHST1.out.trans (hbc.mono HKHST1.out.size)); have HKHCO2 := hid (HKHCO1.out.trans (hbc.mono HKHCO1.out.size)); have HKHCT2 := hid (HKHCT1.out.trans (hbc.mono HKHCT1.out.size)); have hbz2 := HBc1.out.size; have hTc := Nat.le_trans HKHCT1.out.size hT1; have HH := hid hH; clear hH; have HKHH2 := hid (Below.refl wc2.heap.size wc2); have hrbHH : Wd.heap.size < wc1.heap.size := HXc1.out.lt; have HI := hid (show InT wc2 wc1.heap.size T (.slice sa r sc) (sortN (pl.take r)) from ⟨hI, hT2⟩); clear hI; have HKHI2 := hid (Below.refl wc2.heap.size wc2); have hrbHI : Wd.heap.size < wc1.heap.size := HXc1.out.lt; clear hbc)
      (try go_wp2_with fail)
      refine hK.out _ _ (HG.out _ HBc2.out) (fun hHeld => ?_)
      clear hK K
      try simp only [Act.put, List.setIfInBounds_toArray, List.set]
      refine tkbh (i := 5) (v := ?_) (y := (Or.inl ⟨by rfl, ?_⟩)) (z := ?_)
      rotate_left
      ·(intro w' hSw; (try dsimp only at hSw); go_simp) <;> with_reducible rfl
      try simp only [Act.put, List.setIfInBounds_toArray, List.set]
      refine tkbh (i := 6) (v := ?_) (y := (Or.inl ⟨by rfl, ?_⟩)) (z := ?_)
      rotate_left
      ·(intro w' hSw; (try dsimp only at hSw); go_simp) <;> with_reducible rfl
      try simp only [Act.put, List.setIfInBounds_toArray, List.set]
      refine tkbh (i := 7) (v := ?_) (y := (Or.inl ⟨by rfl, ?_⟩)) (z := ?_)
      rotate_left
      ·(intro w' hSw; (try dsimp only at hSw); go_simp) <;> with_reducible rfl
      try simp only [Act.put, List.setIfInBounds_toArray, List.set]
      refine tkbh (i := 9) (v := ?_) (y := (Or.inl ⟨by rfl, ?_⟩)) (z := ?_)
      rotate_left
      ·(intro w' hSw; (try dsimp only at hSw); go_simp) <;> with_reducible rfl
      try simp only [Act.put, List.setIfInBounds_toArray, List.set]
      refine wpAnyH_ready (rs := [10]) (by kernel_rfl) (by simp) ?_
      refine csbh (x := fun K hK => ?_) (y := AllReadyH.nil)
      have e0 := HXc2.out.cell 0 rfl
      have f0 := HXc2.out.frozen 0
      have e1 := HXc2.out.cell 1 rfl
      have f1 := HXc2.out.frozen 1
      have hlo : w2.heap.size ≤ Wd.heap.size := HD.out.size
      go_simp
      have g0 : BoxN _ Wd.heap.size 36 #[.slice sa r sc, .slice none 0 0] := HXc2.out.set 0 (.slice sa r sc)
      have h0 := HBc2.out.setCell (p := ⟨Wd.heap.size, 0, none⟩) hlo (.slice sa r sc)
      have g1 : BoxN _ Wd.heap.size 36 #[.slice sa r sc, .slice ca cols.length cc] := g0.set 1 (.slice ca cols.length cc)
      have h1 := h0.setCell (p := ⟨Wd.heap.size, 1, none⟩) hlo (.slice ca cols.length cc)
      have HGX := hid g1
      have HHX := hid h1
      have HZHCT := hid ((InT.set ((InT.set ((InT.later (HCT.out) HKHCT2.out (Nat.le_refl _))) (p := ⟨Wd.heap.size, 0, none⟩) hrbHCT (.slice sa r sc))) (p := ⟨Wd.heap.size, 1, none⟩) hrbHCT (.slice ca cols.length cc)))
      have HZHH := hid ((HtsOf.set ((HtsOf.set ((HtsOf.later (HH.out) HKHH2.out)) (x := ⟨Wd.heap.size, 0, none⟩) (Nat.lt_of_lt_of_le hrbHH hT1) (.slice sa r sc))) (x := ⟨Wd.heap.size, 1, none⟩) (Nat.lt_of_lt_of_le hrbHH hT1) (.slice ca cols.length cc)))
      have HZHI := hid ((InT.set ((InT.set ((InT.later (HI.out) HKHI2.out hT2)) (p := ⟨Wd.heap.size, 0, none⟩) hrbHI (.slice sa r sc))) (p := ⟨Wd.heap.size, 1, none⟩) hrbHI (.slice ca cols.length cc)))
      clear g0 h0 e0 f0 g1 h1 e1 f1
      refine hK.out _ _ (HG.out _ HHX.out) (fun hHeld => ?_)
      clear hK K
      try simp only [Act.put, List.setIfInBounds_toArray, List.set]
      refine wpAnyH_done (by kernel_rfl) ?_ _
      go_wp2_with fail
      go_meet
      exact ⟨_, va, vc, HL, ds, r, sa, sc, ca, cc, T, cols, rfl, rfl, hlo, Nat.le_trans hbz2 hT1, HHX, HGX, HZHH, hid (InK.more HZHI.out.1 fun k hk => ⟨Nat.le_trans hbz2 hk.1, hk.2⟩), hid (InK.more HZHCT.out.1 fun k hk => ⟨Nat.le_trans hbz hk.1, Nat.lt_of_lt_of_le hk.2 hTc⟩), HCF, HM, HGD, hid HST.out.le, hid HZHI.out.2⟩
     exact AllReadyH.nil
    exact AllReadyH.nil
   exact AllReadyH.nil
  case rest =>
   obtain ⟨rb, va, vc, HL, ds, r, sa, sc, ca, cc, T, cols, rfl, rfl, hrb, hT, HBX, HCX, HHX, HIX, HCT, HCF, HM, HGD, HLE, HTL⟩ := hcut
   obtain ⟨w3, rfl⟩ : ∃ W, W = wc := ⟨_, rfl⟩
   have hb03 := HBX.out.below (B := W0.heap.size) (by omega) (by omega) (by omega)
   have HB03 := hid (HB2.out.trans hb03)
   have hX1 := HX1.out.below HB03.out HX1.out.lt
   have hX2 := HX2.out.below HB03.out HX2.out.lt
   have c0 := hX1.cell 0 rfl
   have y0 := hX2.cell 0 rfl
   have y1 := hX2.cell 1 rfl
   have f0 := hX2.frozen 0
   have f1 := hX2.frozen 1
   have v0 := HCX.out.cell 0 rfl
   have v1 := HCX.out.cell 1 rfl
   have HY2 := hid hX2
   obtain ⟨n, hn⟩ : ∃ n, n = min k ds.length := ⟨_, rfl⟩
   have hnd : n ≤ ds.length := by omega
   have hnc : ds.length ≤ vc := by
    obtain ⟨a, c, e, h1, -⟩ := HHX.out.row.read
    obtain ⟨-, -, rfl⟩ := Value.slice.inj e
    exact h1
   have hmi : min (k : Int) (ds.length : Int) = (n : Int) := by omega
   have hni : (n : Int) ≤ (vc : Int) := by omega
   have HN := hid hn
   have hw2s : W0.heap.size ≤ w2.heap.size := by omega
   have HRES : Hid (TopP w den cs q k (.returned (.tuple #[.slice va n vc, .agg #[.slice sa r sc, .slice ca cols.length cc]])) (((w3.setCell ⟨w.heap.size + 1 + 1, 0, none⟩ (.slice sa r sc)).setCell ⟨w.heap.size + 1 + 1, 1, none⟩ (.slice ca cols.length cc)).drew)) := hid (by
    have hrd := (HHX.out.rd).take rfl hnd
    have hl : (ds.take n).length = n := by rw [List.length_take]; omega
    have hs3 : w2.heap.size ≤ w3.heap.size := HBX.out.size
    have key : ∀ x : Addr, w2.heap.size ≤ x.block → (((w3.setCell ⟨w.heap.size + 1 + 1, 0, none⟩ (.slice sa r sc)).setCell ⟨w.heap.size + 1 + 1, 1, none⟩ (.slice ca cols.length cc)).drew).cell? x = w3.cell? x := fun x hx => by
     show World.cell? ((w3.setCell ⟨w.heap.size + 1 + 1, 0, none⟩ (.slice sa r sc)).setCell ⟨w.heap.size + 1 + 1, 1, none⟩ (.slice ca cols.length cc)) x = _
     rw [World.cell?_of_block (Below.heap_setCell _ _ _ _ (by show x.block ≠ w.heap.size + 1 + 1; omega)), World.cell?_of_block (Below.heap_setCell _ _ _ _ (by show x.block ≠ w.heap.size + 1 + 1; omega))]
    have hsz : (((w3.setCell ⟨w.heap.size + 1 + 1, 0, none⟩ (.slice sa r sc)).setCell ⟨w.heap.size + 1 + 1, 1, none⟩ (.slice ca cols.length cc)).drew).heap.size = w3.heap.size := by simp
    refine ⟨va, vc, HL.take n, ds.take n, sa, ca, r, sc, cols.length, cc, by rw [hl], ?_, fun S hS => ?_, .inr ⟨pl, r, cols, HST1.out.lt, HST1.out.ok, HLE.out, ?_, ?_, HGD.out⟩, ?_⟩
    ·rw [hl]
     have hh := (((HHX.out.set (x := ⟨w.heap.size + 1 + 1, 0, none⟩) (by show w.heap.size + 1 + 1 < _; omega) (.slice sa r sc)).set (x := ⟨w.heap.size + 1 + 1, 1, none⟩) (by show w.heap.size + 1 + 1 < _; omega) (.slice ca cols.length cc)).later ((Below.refl _ _).drew)).rd
     exact (hh.take rfl hnd).base (by omega)
    ·have h1 := top_fin HSC.out.sco HST1.out.ok HND.out HM.out.1 HM.out.2 (by rw [vs_len]; exact HLE.out) hk1 (by rw [vs_len]; exact HGD.out) S hS
     rw [← h1, HN.out, HHX.out.len, ← List.take_take]
     congr 1
     rw [List.take_of_length_le (Nat.le_refl _)]
    ·exact (InK.keep HIX.out fun x hx => key x hx.1).more fun b hb => ⟨by omega, by rw [hsz]; exact Nat.lt_of_lt_of_le hb.2 HTL.out⟩
    ·exact ⟨(InK.keep HCT.out fun x hx => key x hx.1).more fun b hb => ⟨by omega, by rw [hsz]; exact Nat.lt_of_lt_of_le hb.2 HTL.out⟩, HCF.out.1, HCF.out.2.1, HCF.out.2.2⟩
    ·exact (((HB0.out.trans (HB03.out.mono (by omega))).setCell (p := ⟨w.heap.size + 1 + 1, 0, none⟩) (show w.heap.size ≤ w.heap.size + 1 + 1 by omega) (.slice sa r sc)).setCell (p := ⟨w.heap.size + 1 + 1, 1, none⟩) (show w.heap.size ≤ w.heap.size + 1 + 1 by omega) (.slice ca cols.length cc)).drew)
   have HY3 : Hid (BoxN (((w3.setCell ⟨w.heap.size + 1 + 1, 0, none⟩ (.slice sa r sc)).setCell ⟨w.heap.size + 1 + 1, 1, none⟩ (.slice ca cols.length cc)).drew) (w.heap.size + 1 + 1) 36 #[.slice sa r sc, .slice ca cols.length cc]) := hid ((HY2.out.set 0 (.slice sa r sc)).set 1 (.slice ca cols.length cc))
   clear hX1 hX2 hb03 hn
   go_upto_region 5 with fail
   go_region
   have z0 := HY3.out.cell 0 rfl
   have z1 := HY3.out.cell 1 rfl
   clear c0 y0 y1 f0 f1 v0 v1
   go_wp2
   refine bodyPost_ret (v := .tuple #[.slice va n vc, .agg #[.slice sa r sc, .slice ca cols.length cc]]) (by simp [results, Tryz.results53, go_sem, z0, z1]) rfl HRES.out
end Go.Proofs.YtikiimlmoalbcaaGreatDoor
