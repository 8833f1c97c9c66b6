/- Contracts of containment.Top and containment.Least. -/
import Derived.Deep.RegionHeld3
import Derived.Deep.Cut
import Derived.Deep.CutRange
import Derived.Test.YtikiimlmoalbcaaGreatDoorCoFbk
set_option linter.unusedVariables false
set_option linter.unusedSimpArgs false
namespace Go.Proofs.YtikiimlmoalbcaaGreatDoor
open Go.RowKit
def CertE (E : Prop) (cs : List Cv) (q : List ByteArray) (Good : List ByteArray → Nat → List Nat → Prop) (B : Nat) (W : World) (lv cv : Value) : Prop := E ∨ CertP cs q Good B W lv cv
section
variable {E : Prop} {cs : List Cv} {q : List ByteArray} {Good : List ByteArray → Nat → List Nat → Prop} {B B' : Nat} {W W' : World} {lv cv : Value}
theorem CertE.later (h : CertE E cs q Good B W lv cv) (hb : Below W.heap.size W W') : CertE E cs q Good B W' lv cv := by
  rcases h with h | ⟨pl, r, cols, h1, h2, h3, h4, h5, h6⟩
  · exact .inl h
  · exact .inr ⟨pl, r, cols, h1, h2, h3, (InK.keep h4 fun p hp => hb.cell (p := p) hp.2).more fun k hk => ⟨hk.1, Nat.lt_of_lt_of_le hk.2 hb.size⟩, h5.later hb, h6⟩
theorem CertE.set (h : CertE E cs q Good B W lv cv) {x : Addr} (hx : x.block < B) (u : Value) : CertE E cs q Good B (W.setCell x u) lv cv := by
  rcases h with h | ⟨pl, r, cols, h1, h2, h3, h4, h5, h6⟩
  · exact .inl h
  · exact .inr ⟨pl, r, cols, h1, h2, h3, (InK.keep h4 fun p hp => World.cell?_of_block (Below.heap_setCell _ _ _ _ (by have := hp.1; omega))).more fun k hk => ⟨hk.1, by simpa using hk.2⟩, h5.set hx u, h6⟩
theorem CertE.base (h : CertE E cs q Good B W lv cv) (hB : B' ≤ B) : CertE E cs q Good B' W lv cv := by
  rcases h with h | ⟨pl, r, cols, h1, h2, h3, h4, h5, h6⟩
  · exact .inl h
  · exact .inr ⟨pl, r, cols, h1, h2, h3, h4.more fun k hk => ⟨Nat.le_trans hB hk.1, hk.2⟩, h5.base hB, h6⟩
end
def CTopP (w : World) (cs : List Cv) (q : List ByteArray) (kind k : Nat) (e : Ending) (w' : World) : Prop :=
  ∃ (va : Option Addr) (vc : Nat) (H : List Nat) (ds : List Mq) (la ca : Option Addr) (ln lc cn cc : Nat), e = .returned (.tuple #[.slice va ds.length vc, .agg #[.slice la ln lc, .slice ca cn cc], .int .i64 0]) ∧ HtsRd w.heap.size w' (.slice va ds.length vc) (denK kind q.length) cs (comC cs q) H ds ∧ (∀ S, HitsOk (denK kind q.length) cs q S → H = S.take k) ∧
    CertE (k = 0 ∧ ln = 0 ∧ cn = 0) cs q (fun vs r cols => GoodT (denK kind q.length) cs vs k r cols) w.heap.size w' (.slice la ln lc) (.slice ca cn cc) ∧ Below w.heap.size w w'
set_option maxRecDepth 100000 in
set_option maxHeartbeats 8000000 in
theorem cont_Top {w : World} {cs : List Cv} {q : List ByteArray} {ev vv lv qv : Value} (hin : SrcIn w cs q ev vv lv qv) (kind : Nat) (hk1 : 1 ≤ kind) (hk3 : kind ≤ 3) (k : Nat) (hk : k ≤ 1024) (ho : Fr.OneAt w) :
  Calls Tryz.prog 13 #[.int .i64 (kind : Int), .agg #[ev, vv, lv], qv, .int .i64 (k : Int)] w (CTopP w cs q kind k) := by
 have hQ : q.length ≤ 1048576 := hin.ql
 obtain ⟨ea, ec, rfl, -⟩ := id hin.rd.ents
 obtain ⟨va0, vc0, rfl, -⟩ := id hin.rd.vals
 obtain ⟨lf, ⟨la0, lc0, rfl, -⟩, -⟩ := id hin.rd.lists
 obtain ⟨qa, qc, rfl, -⟩ := id hin.qrd
 have HIN0 := hid hin
 have HO := hid ho
 have HKV : Hid (decide ((1 : Int) ≤ (kind : Int) ∧ (kind : Int) ≤ 3) = true) := hid (decide_eq_true (by omega))
 have HCV := hid (fun W => Fr.cont_Valid (kind : Int) W)
 have HSO := hid (fun W => cont_some k hk W)
 have HAS := hid (fun W (hW : Below w.heap.size w W) => cont_asked (hin.later hW))
 clear hin ho
 have hB0 : Below w.heap.size w ((w.alloc (.cells #[.slice ea (indexOf cs).ents.length ec, .slice va0 (indexOf cs).vals.length vc0, .slice la0 (indexOf cs).lists.length lc0] 30)).alloc (.cells #[.slice none 0 0, .slice none 0 0] 36)) := ((Below.refl w.heap.size w).alloc (Nat.le_refl _) _).alloc (by rw [World.size_alloc]; omega) _
 have hX0 := BoxN.new w #[.slice ea (indexOf cs).ents.length ec, .slice va0 (indexOf cs).vals.length vc0, .slice la0 (indexOf cs).lists.length lc0] 30
 replace hX0 := hX0.alloc (.cells #[.slice none 0 0, .slice none 0 0] 36)
 have hX1 := BoxN.new (w.alloc (.cells #[.slice ea (indexOf cs).ents.length ec, .slice va0 (indexOf cs).vals.length vc0, .slice la0 (indexOf cs).lists.length lc0] 30)) #[.slice none 0 0, .slice none 0 0] 36
 simp only [World.size_alloc] at hX1
 obtain ⟨W0, hW0⟩ : ∃ V, V = ((w.alloc (.cells #[.slice ea (indexOf cs).ents.length ec, .slice va0 (indexOf cs).vals.length vc0, .slice la0 (indexOf cs).lists.length lc0] 30)).alloc (.cells #[.slice none 0 0, .slice none 0 0] 36)) := ⟨_, rfl⟩
 rw [← hW0] at hB0 hX0 hX1
 have hz0 : (w.heap.size + 1) < W0.heap.size := hX1.lt
 have HB0 := hid hB0
 have HX0 := hid hX0
 have HX1 := hid hX1
 clear hB0 hX0 hX1
 have HG := hid (fun W (hW : Below W0.heap.size W0 W) => (by
  have h1 := HX0.out.below hW HX0.out.lt
  exact ⟨h1.cell 0 rfl, h1.cell 1 rfl, h1.cell 2 rfl⟩ : W.cell? ⟨w.heap.size, 0, none⟩ = some (.slice ea (indexOf cs).ents.length ec) ∧ W.cell? ⟨w.heap.size, 1, none⟩ = some (.slice va0 (indexOf cs).vals.length vc0) ∧ W.cell? ⟨w.heap.size, 2, none⟩ = some (.slice la0 (indexOf cs).lists.length lc0)))
 have HC := hid ((Below.refl W0.heap.size W0).drew)
 have hwz : w.heap.size ≤ W0.heap.size := by omega
 go_enter Tryz.func13, Tryz.ntmps13
 go_upto_region 1 with fail
 rw [← hW0]
 clear hW0
 go_cut [11] from 14 to 22 (fun s11 wx => s11 = .int .i64 0 ∧ Hid (Below W0.heap.size W0 wx))
 case first =>
  go_region_held3 (fun W => W.cell? ⟨w.heap.size, 0, none⟩ = some (.slice ea (indexOf cs).ents.length ec) ∧ W.cell? ⟨w.heap.size, 1, none⟩ = some (.slice va0 (indexOf cs).vals.length vc0) ∧ W.cell? ⟨w.heap.size, 2, none⟩ = some (.slice la0 (indexOf cs).lists.length lc0))
   (first | exact HG.out _ HC.out | go_keep)
   (first
    | (go_at_call 48; go_must ((with_reducible refine (HCV.out _).mono ?_); rintro e w5 ⟨rfl, rfl⟩; rw [HKV.out]))
    | (go_at_call 52; go_must ((with_reducible refine (HSO.out _).mono ?_); rintro e w5 ⟨rfl, rfl⟩))
    | (go_at_call 51; go_must ((with_reducible refine (HAS.out _ (HB0.out.trans (HC.out.mono hwz))).mono ?_); rintro e w5 ⟨rfl, hb5⟩; have HC := hid (HC.out.trans (hb5.mono HC.out.size)); clear hb5)))
  all_goals
   go_wp2_with fail
   go_meet
   exact ⟨rfl, HC⟩
 case rest =>
  obtain ⟨rfl, HBC⟩ := hcut
  obtain ⟨w3, rfl⟩ : ∃ W, W = wc := ⟨_, rfl⟩
  have hz3 := HBC.out.size
  have HBW := hid (HB0.out.trans (HBC.out.mono hwz))
  have HGo := HG
  clear HG
  have HG := hid (fun W (hW : Below w3.heap.size w3 W) => HGo.out W (HBC.out.trans (hW.mono hz3)))
  have HIN := hid (fun W (hW : Below w3.heap.size w3 W) => HIN0.out.later (HBW.out.trans (hW.mono (by omega))))
  have HONE := hid (fun W (hW : Below w3.heap.size w3 W) => HO.out.below (HBW.out.trans (hW.mono (by omega))))
  clear HGo HC
  go_upto_region 4 with fail
  go_cut [12, 13] from 27 to 37 (fun s12 s13 wx => ∃ (rb : Nat) (va : Option Addr) (vc : Nat) (HL : List Nat) (ds : List Mq) (la ca : Option Addr) (ln lc cn cc : Nat), s12 = .slice va ds.length vc ∧ s13 = .pointer (some ⟨rb, 0, none⟩) ∧ w3.heap.size ≤ rb ∧ Hid (Below w3.heap.size w3 wx) ∧ Hid (BoxN wx rb 36 #[.slice la ln lc, .slice ca cn cc]) ∧ Hid (HtsRd w3.heap.size wx (.slice va ds.length vc) (denK kind q.length) cs (comC cs q) HL ds) ∧ Hid (∀ S, HitsOk (denK kind q.length) cs q S → HL = S.take k) ∧ Hid (CertE (k = 0 ∧ ln = 0 ∧ cn = 0) cs q (fun vs r cols => GoodT (denK kind q.length) cs vs k r cols) w3.heap.size wx (.slice la ln lc) (.slice ca cn cc)))
  case first =>
   have HD := hid (show Below w3.heap.size w3 w3.drew from (Below.refl w3.heap.size w3).drew)
   refine wp_region_held_drew (S := fun W => W.cell? ⟨w.heap.size, 0, none⟩ = some (.slice ea (indexOf cs).ents.length ec) ∧ W.cell? ⟨w.heap.size, 1, none⟩ = some (.slice va0 (indexOf cs).vals.length vc0) ∧ W.cell? ⟨w.heap.size, 2, none⟩ = some (.slice la0 (indexOf cs).lists.length lc0)) (by kernel_rfl) (HG.out _ HD.out) (fun hHeld => ?_)
   generalize w3.drew = Wd at *
   refine wpAnyH_take (i := 0) (v := ?_) (by simp only [List.getElem?_toArray, List.getElem?_cons_zero, List.getElem?_cons_succ]; rfl) (by kernel_rfl) (by kernel_rfl) (by kernel_rfl) (by intro _ _ _ h; exact h) (Or.inl ⟨by rfl, ?_⟩) (by assumption) ?_
   rotate_left
   ·(intro w' hSw; (try dsimp only at hSw); go_simp) <;> with_reducible rfl
   try simp only [Act.put, List.setIfInBounds_toArray, List.set_cons_zero, List.set_cons_succ]
   refine wpAnyH_take (i := 1) (v := ?_) (by simp only [List.getElem?_toArray, List.getElem?_cons_zero, List.getElem?_cons_succ]; rfl) (by kernel_rfl) (by kernel_rfl) (by kernel_rfl) (by intro _ _ _ h; exact h) (Or.inl ⟨by rfl, ?_⟩) (by assumption) ?_
   rotate_left
   ·(intro w' hSw; (try dsimp only at hSw); go_simp) <;> with_reducible rfl
   try simp only [Act.put, List.setIfInBounds_toArray, List.set_cons_zero, List.set_cons_succ]
   refine wpAnyH_take (i := 2) (v := ?_) (by simp only [List.getElem?_toArray, List.getElem?_cons_zero, List.getElem?_cons_succ]; rfl) (by kernel_rfl) (by kernel_rfl) (by kernel_rfl) (by intro _ _ _ h; exact h) (Or.inl ⟨by rfl, ?_⟩) (by assumption) ?_
   rotate_left
   ·(intro w' hSw; (try dsimp only at hSw); go_simp) <;> with_reducible rfl
   try simp only [Act.put, List.setIfInBounds_toArray, List.set_cons_zero, List.set_cons_succ]
   refine wpAnyH_take (i := 3) (v := ?_) (by simp only [List.getElem?_toArray, List.getElem?_cons_zero, List.getElem?_cons_succ]; rfl) (by kernel_rfl) (by kernel_rfl) (by kernel_rfl) (by intro _ _ _ h; exact h) (Or.inl ⟨by rfl, ?_⟩) (by assumption) ?_
   rotate_left
   ·(intro w' hSw; (try dsimp only at hSw); go_simp) <;> with_reducible rfl
   try simp only [Act.put, List.setIfInBounds_toArray, List.set_cons_zero, List.set_cons_succ]
   refine wpAnyH_take (i := 4) (v := ?_) (by simp only [List.getElem?_toArray, List.getElem?_cons_zero, List.getElem?_cons_succ]; rfl) (by kernel_rfl) (by kernel_rfl) (by kernel_rfl) (by intro _ _ _ h; exact h) (Or.inl ⟨by rfl, ?_⟩) (by assumption) ?_
   rotate_left
   ·(intro w' hSw; (try dsimp only at hSw); go_simp) <;> with_reducible rfl
   try simp only [Act.put, List.setIfInBounds_toArray, List.set_cons_zero, List.set_cons_succ]
   refine wpAnyH_take (i := 5) (v := ?_) (by simp only [List.getElem?_toArray, List.getElem?_cons_zero, List.getElem?_cons_succ]; rfl) (by kernel_rfl) (by kernel_rfl) (by kernel_rfl) (by intro _ _ _ h; exact h) (Or.inl ⟨by rfl, ?_⟩) (by assumption) ?_
   rotate_left
   ·(intro w' hSw; (try dsimp only at hSw); go_simp) <;> with_reducible rfl
   try simp only [Act.put, List.setIfInBounds_toArray, List.set_cons_zero, List.set_cons_succ]
   refine wpAnyH_ready (rs := [6, 11]) (by kernel_rfl) (by simp) ?_
   refine AllReadyH.cons (by simp only [List.getElem?_toArray, List.getElem?_cons_zero, List.getElem?_cons_succ]; rfl) (fun K hK => ?_) ?_
   ·go_simp
    go_at_call 54
    go_must ((with_reducible refine (cont_of kind q.length Wd).mono ?_); rintro e wc0 ⟨rfl, hwv⟩; have hbc : Below Wd.heap.size Wd wc0 := (by rw [hwv]; exact ((Below.refl _ _).alloc (Nat.le_refl _) _).alloc (by rw [World.size_alloc]; omega) _); have HBc0 := hid (HD.out.trans (hbc.mono HD.out.size)); have HSC := hid (sco_cont hk1 hk3 hQ (show BoxN wc0 Wd.heap.size 3 #[.int .i64 (kind : Int)] by rw [hwv]; exact (BoxN.new _ _ _).alloc _) (show BoxN wc0 (Wd.heap.size + 1) 3 #[.int .i64 (q.length : Int)] by (rw [hwv]; have hb := BoxN.new (Wd.alloc (.cells #[.int .i64 (kind : Int)] 3)) #[.int .i64 (q.length : Int)] 3; rw [World.size_alloc] at hb; exact hb))); clear hwv; have HKHSC0 := hid (Below.refl wc0.heap.size wc0); clear hbc)
    (try go_wp2_with fail)
    refine hK.out _ _ (HG.out _ HBc0.out) (fun hHeld => ?_)
    clear hK K
    try simp only [Act.put, List.setIfInBounds_toArray, List.set_cons_zero, List.set_cons_succ]
    refine wpAnyH_ready (rs := [7, 11]) (by kernel_rfl) (by simp) ?_
    refine AllReadyH.cons (by simp only [List.getElem?_toArray, List.getElem?_cons_zero, List.getElem?_cons_succ]; rfl) (fun K hK => ?_) ?_
    ·go_simp
     go_at_call 53
     go_must ((with_reducible refine (bnd_Top (HIN.out wc0 HBc0.out) (ScoOk.later HSC.out HKHSC0.out) k (by omega) (HONE.out wc0 HBc0.out)).mono ?_); rintro e wc1 ⟨va, vc, HL, ds, la, ca, ln, lc, cn, cc, rfl, hrd, hall, hcert, hbc⟩; have HA := hid hall; clear hall; have HBc1 := hid (HBc0.out.trans (hbc.mono HBc0.out.size)); have HKHSC1 := hid (HKHSC0.out.trans (hbc.mono HKHSC0.out.size)); have hbz := HBc0.out.size; have HR := hid hrd; clear hrd; have HKHR1 := hid (Below.refl wc1.heap.size wc1); have HC := hid (show CertE (k = 0 ∧ ln = 0 ∧ cn = 0) cs q (fun vs r cols => GoodT (denK kind q.length) cs vs k r cols) wc0.heap.size wc1 (.slice la ln lc) (.slice ca cn cc) from hcert); clear hcert; have HKHC1 := hid (Below.refl wc1.heap.size wc1); clear hbc)
     (try go_wp2_with fail)
     refine hK.out _ _ (HG.out _ HBc1.out) (fun hHeld => ?_)
     clear hK K
     try simp only [Act.put, List.setIfInBounds_toArray, List.set_cons_zero, List.set_cons_succ]
     refine wpAnyH_take (i := 8) (v := ?_) (by simp only [List.getElem?_toArray, List.getElem?_cons_zero, List.getElem?_cons_succ]; rfl) (by kernel_rfl) (by kernel_rfl) (by kernel_rfl) (by intro _ _ _ h; exact h) (Or.inl ⟨by rfl, ?_⟩) (by assumption) ?_
     rotate_left
     ·(intro w' hSw; (try dsimp only at hSw); go_simp) <;> with_reducible rfl
     try simp only [Act.put, List.setIfInBounds_toArray, List.set_cons_zero, List.set_cons_succ]
     refine wpAnyH_take (i := 9) (v := ?_) (by simp only [List.getElem?_toArray, List.getElem?_cons_zero, List.getElem?_cons_succ]; rfl) (by kernel_rfl) (by kernel_rfl) (by kernel_rfl) (by intro _ _ _ h; exact h) (Or.inl ⟨by rfl, ?_⟩) (by assumption) ?_
     rotate_left
     ·(intro w' hSw; (try dsimp only at hSw); go_simp) <;> with_reducible rfl
     try simp only [Act.put, List.setIfInBounds_toArray, List.set_cons_zero, List.set_cons_succ]
     refine wpAnyH_take (i := 10) (v := ?_) (by simp only [List.getElem?_toArray, List.getElem?_cons_zero, List.getElem?_cons_succ]; rfl) (by kernel_rfl) (by kernel_rfl) (by kernel_rfl) (by intro _ _ _ h; exact h) (Or.inl ⟨by rfl, ?_⟩) (by assumption) ?_
     rotate_left
     ·(intro w' hSw; (try dsimp only at hSw); go_simp) <;> with_reducible rfl
     try simp only [Act.put, List.setIfInBounds_toArray, List.set_cons_zero, List.set_cons_succ]
     refine wpAnyH_ready (rs := [11]) (by kernel_rfl) (by simp) ?_
     refine AllReadyH.cons (by simp only [List.getElem?_toArray, List.getElem?_cons_zero, List.getElem?_cons_succ]; rfl) (fun K hK => ?_) ?_
     ·go_simp
      have HBa2 := hid (HBc1.out.alloc HBc1.out.size (.cells #[.slice none 0 0, .slice none 0 0] 36))
      have HXa2 := hid (BoxN.new wc1 #[.slice none 0 0, .slice none 0 0] 36)
      have hloHSC : wc0.heap.size ≤ wc1.heap.size := HKHSC1.out.size
      have HKHSC2 := hid (HKHSC1.out.alloc HKHSC1.out.size (.cells #[.slice none 0 0, .slice none 0 0] 36))
      have hloHR : wc1.heap.size ≤ wc1.heap.size := HKHR1.out.size
      have HKHR2 := hid (HKHR1.out.alloc HKHR1.out.size (.cells #[.slice none 0 0, .slice none 0 0] 36))
      have hloHC : wc1.heap.size ≤ wc1.heap.size := HKHC1.out.size
      have HKHC2 := hid (HKHC1.out.alloc HKHC1.out.size (.cells #[.slice none 0 0, .slice none 0 0] 36))
      refine hK.out _ _ (HG.out _ HBa2.out) (fun hHeld => ?_)
      clear hK K
      try simp only [Act.put, List.setIfInBounds_toArray, List.set_cons_zero, List.set_cons_succ]
      obtain ⟨Wa2, hWa2⟩ : ∃ V, V = World.alloc wc1 (.cells #[.slice none 0 0, .slice none 0 0] 36) := ⟨_, rfl⟩
      rw [← hWa2] at HBa2 HXa2 HKHSC2 HKHR2 HKHC2 hHeld ⊢
      clear hWa2
      refine wpAnyH_take (i := 12) (v := ?_) (by simp only [List.getElem?_toArray, List.getElem?_cons_zero, List.getElem?_cons_succ]; rfl) (by kernel_rfl) (by kernel_rfl) (by kernel_rfl) (by intro _ _ _ h; exact h) (Or.inl ⟨by rfl, ?_⟩) (by assumption) ?_
      rotate_left
      ·(intro w' hSw; (try dsimp only at hSw); go_simp) <;> with_reducible rfl
      try simp only [Act.put, List.setIfInBounds_toArray, List.set_cons_zero, List.set_cons_succ]
      refine wpAnyH_ready (rs := [13]) (by kernel_rfl) (by simp) ?_
      refine AllReadyH.cons (by simp only [List.getElem?_toArray, List.getElem?_cons_zero, List.getElem?_cons_succ]; rfl) (fun K hK => ?_) AllReadyH.nil
      have e0 := HXa2.out.cell 0 rfl
      have f0 := HXa2.out.frozen 0
      have e1 := HXa2.out.cell 1 rfl
      have f1 := HXa2.out.frozen 1
      have hlo : w3.heap.size ≤ wc1.heap.size := HBc1.out.size
      go_simp
      have g0 : BoxN _ wc1.heap.size 36 #[.slice la ln lc, .slice none 0 0] := HXa2.out.set 0 (.slice la ln lc)
      have h0 := HBa2.out.setCell (p := ⟨wc1.heap.size, 0, none⟩) hlo (.slice la ln lc)
      have g1 : BoxN _ wc1.heap.size 36 #[.slice la ln lc, .slice ca cn cc] := g0.set 1 (.slice ca cn cc)
      have h1 := h0.setCell (p := ⟨wc1.heap.size, 1, none⟩) hlo (.slice ca cn cc)
      have HGX := hid g1
      have HHX := hid h1
      have HZHR := hid (HtsRd.later (HR.out) ((HKHR2.out.setCell (p := ⟨wc1.heap.size, 0, none⟩) hloHR (.slice la ln lc)).setCell (p := ⟨wc1.heap.size, 1, none⟩) hloHR (.slice ca cn cc)))
      have HZHC := hid (CertE.later (HC.out) ((HKHC2.out.setCell (p := ⟨wc1.heap.size, 0, none⟩) hloHC (.slice la ln lc)).setCell (p := ⟨wc1.heap.size, 1, none⟩) hloHC (.slice ca cn cc)))
      clear g0 h0 e0 f0 g1 h1 e1 f1
      refine hK.out _ _ (HG.out _ HHX.out) (fun hHeld => ?_)
      clear hK K
      try simp only [Act.put, List.setIfInBounds_toArray, List.set_cons_zero, List.set_cons_succ]
      refine wpAnyH_done (by kernel_rfl) ?_ _
      go_wp2_with fail
      go_meet
      exact ⟨_, va, vc, HL, ds, la, ca, ln, lc, cn, cc, rfl, rfl, hlo, HHX, HGX, hid (HZHR.out.base hbz), HA, hid (HZHC.out.base hbz)⟩
     exact AllReadyH.nil
    refine AllReadyH.cons (by simp only [List.getElem?_toArray, List.getElem?_cons_zero, List.getElem?_cons_succ]; rfl) (fun K hK => ?_) ?_
    ·go_simp
     have HBa1 := hid (HBc0.out.alloc HBc0.out.size (.cells #[.slice none 0 0, .slice none 0 0] 36))
     have HXa1 := hid (BoxN.new wc0 #[.slice none 0 0, .slice none 0 0] 36)
     have hloHSC : wc0.heap.size ≤ wc0.heap.size := HKHSC0.out.size
     have HKHSC1 := hid (HKHSC0.out.alloc HKHSC0.out.size (.cells #[.slice none 0 0, .slice none 0 0] 36))
     refine hK.out _ _ (HG.out _ HBa1.out) (fun hHeld => ?_)
     clear hK K
     try simp only [Act.put, List.setIfInBounds_toArray, List.set_cons_zero, List.set_cons_succ]
     obtain ⟨Wa1, hWa1⟩ : ∃ V, V = World.alloc wc0 (.cells #[.slice none 0 0, .slice none 0 0] 36) := ⟨_, rfl⟩
     rw [← hWa1] at HBa1 HXa1 HKHSC1 hHeld ⊢
     clear hWa1
     refine wpAnyH_ready (rs := [7]) (by kernel_rfl) (by simp) ?_
     refine AllReadyH.cons (by simp only [List.getElem?_toArray, List.getElem?_cons_zero, List.getElem?_cons_succ]; rfl) (fun K hK => ?_) ?_
     ·go_simp
      go_at_call 53
      go_must ((with_reducible refine (bnd_Top (HIN.out Wa1 HBa1.out) (ScoOk.later HSC.out HKHSC1.out) k (by omega) (HONE.out Wa1 HBa1.out)).mono ?_); rintro e wc2 ⟨va, vc, HL, ds, la, ca, ln, lc, cn, cc, rfl, hrd, hall, hcert, hbc⟩; have HA := hid hall; clear hall; have HBc2 := hid (HBa1.out.trans (hbc.mono HBa1.out.size)); have HXc2 := hid (HXa1.out.below hbc HXa1.out.lt); have HKHSC2 := hid (HKHSC1.out.trans (hbc.mono HKHSC1.out.size)); have hbz := HBa1.out.size; have HR := hid hrd; clear hrd; have HKHR2 := hid (Below.refl wc2.heap.size wc2); have hrbHR : wc0.heap.size < Wa1.heap.size := HXa1.out.lt; have HC := hid (show CertE (k = 0 ∧ ln = 0 ∧ cn = 0) cs q (fun vs r cols => GoodT (denK kind q.length) cs vs k r cols) Wa1.heap.size wc2 (.slice la ln lc) (.slice ca cn cc) from hcert); clear hcert; have HKHC2 := hid (Below.refl wc2.heap.size wc2); have hrbHC : wc0.heap.size < Wa1.heap.size := HXa1.out.lt; clear hbc)
      (try go_wp2_with fail)
      refine hK.out _ _ (HG.out _ HBc2.out) (fun hHeld => ?_)
      clear hK K
      try simp only [Act.put, List.setIfInBounds_toArray, List.set_cons_zero, List.set_cons_succ]
      refine wpAnyH_take (i := 8) (v := ?_) (by simp only [List.getElem?_toArray, List.getElem?_cons_zero, List.getElem?_cons_succ]; rfl) (by kernel_rfl) (by kernel_rfl) (by kernel_rfl) (by intro _ _ _ h; exact h) (Or.inl ⟨by rfl, ?_⟩) (by assumption) ?_
      rotate_left
      ·(intro w' hSw; (try dsimp only at hSw); go_simp) <;> with_reducible rfl
      try simp only [Act.put, List.setIfInBounds_toArray, List.set_cons_zero, List.set_cons_succ]
      refine wpAnyH_take (i := 9) (v := ?_) (by simp only [List.getElem?_toArray, List.getElem?_cons_zero, List.getElem?_cons_succ]; rfl) (by kernel_rfl) (by kernel_rfl) (by kernel_rfl) (by intro _ _ _ h; exact h) (Or.inl ⟨by rfl, ?_⟩) (by assumption) ?_
      rotate_left
      ·(intro w' hSw; (try dsimp only at hSw); go_simp) <;> with_reducible rfl
      try simp only [Act.put, List.setIfInBounds_toArray, List.set_cons_zero, List.set_cons_succ]
      refine wpAnyH_take (i := 10) (v := ?_) (by simp only [List.getElem?_toArray, List.getElem?_cons_zero, List.getElem?_cons_succ]; rfl) (by kernel_rfl) (by kernel_rfl) (by kernel_rfl) (by intro _ _ _ h; exact h) (Or.inl ⟨by rfl, ?_⟩) (by assumption) ?_
      rotate_left
      ·(intro w' hSw; (try dsimp only at hSw); go_simp) <;> with_reducible rfl
      try simp only [Act.put, List.setIfInBounds_toArray, List.set_cons_zero, List.set_cons_succ]
      refine wpAnyH_take (i := 12) (v := ?_) (by simp only [List.getElem?_toArray, List.getElem?_cons_zero, List.getElem?_cons_succ]; rfl) (by kernel_rfl) (by kernel_rfl) (by kernel_rfl) (by intro _ _ _ h; exact h) (Or.inl ⟨by rfl, ?_⟩) (by assumption) ?_
      rotate_left
      ·(intro w' hSw; (try dsimp only at hSw); go_simp) <;> with_reducible rfl
      try simp only [Act.put, List.setIfInBounds_toArray, List.set_cons_zero, List.set_cons_succ]
      refine wpAnyH_ready (rs := [13]) (by kernel_rfl) (by simp) ?_
      refine AllReadyH.cons (by simp only [List.getElem?_toArray, List.getElem?_cons_zero, List.getElem?_cons_succ]; rfl) (fun K hK => ?_) AllReadyH.nil
      have e0 := HXc2.out.cell 0 rfl
      have f0 := HXc2.out.frozen 0
      have e1 := HXc2.out.cell 1 rfl
      have f1 := HXc2.out.frozen 1
      have hlo : w3.heap.size ≤ wc0.heap.size := HBc0.out.size
      go_simp
      have g0 : BoxN _ wc0.heap.size 36 #[.slice la ln lc, .slice none 0 0] := HXc2.out.set 0 (.slice la ln lc)
      have h0 := HBc2.out.setCell (p := ⟨wc0.heap.size, 0, none⟩) hlo (.slice la ln lc)
      have g1 : BoxN _ wc0.heap.size 36 #[.slice la ln lc, .slice ca cn cc] := g0.set 1 (.slice ca cn cc)
      have h1 := h0.setCell (p := ⟨wc0.heap.size, 1, none⟩) hlo (.slice ca cn cc)
      have HGX := hid g1
      have HHX := hid h1
      have HZHR := hid ((HtsRd.set ((HtsRd.set ((HtsRd.later (HR.out) HKHR2.out)) (x := ⟨wc0.heap.size, 0, none⟩) hrbHR (.slice la ln lc))) (x := ⟨wc0.heap.size, 1, none⟩) hrbHR (.slice ca cn cc)))
      have HZHC := hid ((CertE.set ((CertE.set ((CertE.later (HC.out) HKHC2.out)) (x := ⟨wc0.heap.size, 0, none⟩) hrbHC (.slice la ln lc))) (x := ⟨wc0.heap.size, 1, none⟩) hrbHC (.slice ca cn cc)))
      clear g0 h0 e0 f0 g1 h1 e1 f1
      refine hK.out _ _ (HG.out _ HHX.out) (fun hHeld => ?_)
      clear hK K
      try simp only [Act.put, List.setIfInBounds_toArray, List.set_cons_zero, List.set_cons_succ]
      refine wpAnyH_done (by kernel_rfl) ?_ _
      go_wp2_with fail
      go_meet
      exact ⟨_, va, vc, HL, ds, la, ca, ln, lc, cn, cc, rfl, rfl, hlo, HHX, HGX, hid (HZHR.out.base hbz), HA, hid (HZHC.out.base hbz)⟩
     exact AllReadyH.nil
    exact AllReadyH.nil
   refine AllReadyH.cons (by simp only [List.getElem?_toArray, List.getElem?_cons_zero, List.getElem?_cons_succ]; rfl) (fun K hK => ?_) ?_
   ·go_simp
    have HBa0 := hid (HD.out.alloc HD.out.size (.cells #[.slice none 0 0, .slice none 0 0] 36))
    have HXa0 := hid (BoxN.new Wd #[.slice none 0 0, .slice none 0 0] 36)
    refine hK.out _ _ (HG.out _ HBa0.out) (fun hHeld => ?_)
    clear hK K
    try simp only [Act.put, List.setIfInBounds_toArray, List.set_cons_zero, List.set_cons_succ]
    obtain ⟨Wa0, hWa0⟩ : ∃ V, V = World.alloc Wd (.cells #[.slice none 0 0, .slice none 0 0] 36) := ⟨_, rfl⟩
    rw [← hWa0] at HBa0 HXa0  hHeld ⊢
    clear hWa0
    refine wpAnyH_ready (rs := [6]) (by kernel_rfl) (by simp) ?_
    refine AllReadyH.cons (by simp only [List.getElem?_toArray, List.getElem?_cons_zero, List.getElem?_cons_succ]; rfl) (fun K hK => ?_) ?_
    ·go_simp
     go_at_call 54
     go_must ((with_reducible refine (cont_of kind q.length Wa0).mono ?_); rintro e wc1 ⟨rfl, hwv⟩; have hbc : Below Wa0.heap.size Wa0 wc1 := (by rw [hwv]; exact ((Below.refl _ _).alloc (Nat.le_refl _) _).alloc (by rw [World.size_alloc]; omega) _); have HBc1 := hid (HBa0.out.trans (hbc.mono HBa0.out.size)); have HXc1 := hid (HXa0.out.below hbc HXa0.out.lt); have HSC := hid (sco_cont hk1 hk3 hQ (show BoxN wc1 Wa0.heap.size 3 #[.int .i64 (kind : Int)] by rw [hwv]; exact (BoxN.new _ _ _).alloc _) (show BoxN wc1 (Wa0.heap.size + 1) 3 #[.int .i64 (q.length : Int)] by (rw [hwv]; have hb := BoxN.new (Wa0.alloc (.cells #[.int .i64 (kind : Int)] 3)) #[.int .i64 (q.length : Int)] 3; rw [World.size_alloc] at hb; exact hb))); clear hwv; have HKHSC1 := hid (Below.refl wc1.heap.size wc1); have hrbHSC : Wd.heap.size < Wa0.heap.size := HXa0.out.lt; clear hbc)
     (try go_wp2_with fail)
     refine hK.out _ _ (HG.out _ HBc1.out) (fun hHeld => ?_)
     clear hK K
     try simp only [Act.put, List.setIfInBounds_toArray, List.set_cons_zero, List.set_cons_succ]
     refine wpAnyH_ready (rs := [7]) (by kernel_rfl) (by simp) ?_
     refine AllReadyH.cons (by simp only [List.getElem?_toArray, List.getElem?_cons_zero, List.getElem?_cons_succ]; rfl) (fun K hK => ?_) ?_
     ·go_simp
      go_at_call 53
      go_must ((with_reducible refine (bnd_Top (HIN.out wc1 HBc1.out) (ScoOk.later HSC.out HKHSC1.out) k (by omega) (HONE.out wc1 HBc1.out)).mono ?_); rintro e wc2 ⟨va, vc, HL, ds, la, ca, ln, lc, cn, cc, rfl, hrd, hall, hcert, hbc⟩; have HA := hid hall; clear hall; have HBc2 := hid (HBc1.out.trans (hbc.mono HBc1.out.size)); have HXc2 := hid (HXc1.out.below hbc HXc1.out.lt); have HKHSC2 := hid (HKHSC1.out.trans (hbc.mono HKHSC1.out.size)); have hbz := HBc1.out.size; have HR := hid hrd; clear hrd; have HKHR2 := hid (Below.refl wc2.heap.size wc2); have hrbHR : Wd.heap.size < wc1.heap.size := HXc1.out.lt; have HC := hid (show CertE (k = 0 ∧ ln = 0 ∧ cn = 0) cs q (fun vs r cols => GoodT (denK kind q.length) cs vs k r cols) wc1.heap.size wc2 (.slice la ln lc) (.slice ca cn cc) from hcert); clear hcert; have HKHC2 := hid (Below.refl wc2.heap.size wc2); have hrbHC : Wd.heap.size < wc1.heap.size := HXc1.out.lt; clear hbc)
      (try go_wp2_with fail)
      refine hK.out _ _ (HG.out _ HBc2.out) (fun hHeld => ?_)
      clear hK K
      try simp only [Act.put, List.setIfInBounds_toArray, List.set_cons_zero, List.set_cons_succ]
      refine wpAnyH_take (i := 8) (v := ?_) (by simp only [List.getElem?_toArray, List.getElem?_cons_zero, List.getElem?_cons_succ]; rfl) (by kernel_rfl) (by kernel_rfl) (by kernel_rfl) (by intro _ _ _ h; exact h) (Or.inl ⟨by rfl, ?_⟩) (by assumption) ?_
      rotate_left
      ·(intro w' hSw; (try dsimp only at hSw); go_simp) <;> with_reducible rfl
      try simp only [Act.put, List.setIfInBounds_toArray, List.set_cons_zero, List.set_cons_succ]
      refine wpAnyH_take (i := 9) (v := ?_) (by simp only [List.getElem?_toArray, List.getElem?_cons_zero, List.getElem?_cons_succ]; rfl) (by kernel_rfl) (by kernel_rfl) (by kernel_rfl) (by intro _ _ _ h; exact h) (Or.inl ⟨by rfl, ?_⟩) (by assumption) ?_
      rotate_left
      ·(intro w' hSw; (try dsimp only at hSw); go_simp) <;> with_reducible rfl
      try simp only [Act.put, List.setIfInBounds_toArray, List.set_cons_zero, List.set_cons_succ]
      refine wpAnyH_take (i := 10) (v := ?_) (by simp only [List.getElem?_toArray, List.getElem?_cons_zero, List.getElem?_cons_succ]; rfl) (by kernel_rfl) (by kernel_rfl) (by kernel_rfl) (by intro _ _ _ h; exact h) (Or.inl ⟨by rfl, ?_⟩) (by assumption) ?_
      rotate_left
      ·(intro w' hSw; (try dsimp only at hSw); go_simp) <;> with_reducible rfl
      try simp only [Act.put, List.setIfInBounds_toArray, List.set_cons_zero, List.set_cons_succ]
      refine wpAnyH_take (i := 12) (v := ?_) (by simp only [List.getElem?_toArray, List.getElem?_cons_zero, List.getElem?_cons_succ]; rfl) (by kernel_rfl) (by kernel_rfl) (by kernel_rfl) (by intro _ _ _ h; exact h) (Or.inl ⟨by rfl, ?_⟩) (by assumption) ?_
      rotate_left
      ·(intro w' hSw; (try dsimp only at hSw); go_simp) <;> with_reducible rfl
      try simp only [Act.put, List.setIfInBounds_toArray, List.set_cons_zero, List.set_cons_succ]
      refine wpAnyH_ready (rs := [13]) (by kernel_rfl) (by simp) ?_
      refine AllReadyH.cons (by simp only [List.getElem?_toArray, List.getElem?_cons_zero, List.getElem?_cons_succ]; rfl) (fun K hK => ?_) AllReadyH.nil
      have e0 := HXc2.out.cell 0 rfl
      have f0 := HXc2.out.frozen 0
      have e1 := HXc2.out.cell 1 rfl
      have f1 := HXc2.out.frozen 1
      have hlo : w3.heap.size ≤ Wd.heap.size := HD.out.size
      go_simp
      have g0 : BoxN _ Wd.heap.size 36 #[.slice la ln lc, .slice none 0 0] := HXc2.out.set 0 (.slice la ln lc)
      have h0 := HBc2.out.setCell (p := ⟨Wd.heap.size, 0, none⟩) hlo (.slice la ln lc)
      have g1 : BoxN _ Wd.heap.size 36 #[.slice la ln lc, .slice ca cn cc] := g0.set 1 (.slice ca cn cc)
      have h1 := h0.setCell (p := ⟨Wd.heap.size, 1, none⟩) hlo (.slice ca cn cc)
      have HGX := hid g1
      have HHX := hid h1
      have HZHR := hid ((HtsRd.set ((HtsRd.set ((HtsRd.later (HR.out) HKHR2.out)) (x := ⟨Wd.heap.size, 0, none⟩) hrbHR (.slice la ln lc))) (x := ⟨Wd.heap.size, 1, none⟩) hrbHR (.slice ca cn cc)))
      have HZHC := hid ((CertE.set ((CertE.set ((CertE.later (HC.out) HKHC2.out)) (x := ⟨Wd.heap.size, 0, none⟩) hrbHC (.slice la ln lc))) (x := ⟨Wd.heap.size, 1, none⟩) hrbHC (.slice ca cn cc)))
      clear g0 h0 e0 f0 g1 h1 e1 f1
      refine hK.out _ _ (HG.out _ HHX.out) (fun hHeld => ?_)
      clear hK K
      try simp only [Act.put, List.setIfInBounds_toArray, List.set_cons_zero, List.set_cons_succ]
      refine wpAnyH_done (by kernel_rfl) ?_ _
      go_wp2_with fail
      go_meet
      exact ⟨_, va, vc, HL, ds, la, ca, ln, lc, cn, cc, rfl, rfl, hlo, HHX, HGX, hid (HZHR.out.base hbz), HA, hid (HZHC.out.base hbz)⟩
     exact AllReadyH.nil
    exact AllReadyH.nil
   exact AllReadyH.nil
  case rest =>
   obtain ⟨rb, va, vc, HL, ds, la, ca, ln, lc, cn, cc, rfl, rfl, hrb, HBX, HCX, HRX, HA, HCE⟩ := hcut
   obtain ⟨w4, rfl⟩ : ∃ W, W = wc := ⟨_, rfl⟩
   have hb4 := HBC.out.trans (HBX.out.mono hz3)
   have hY := HX1.out.below hb4 HX1.out.lt
   have y0 := hY.cell 0 rfl
   have y1 := hY.cell 1 rfl
   have f0 := hY.frozen 0
   have f1 := hY.frozen 1
   have v0 := HCX.out.cell 0 rfl
   have v1 := HCX.out.cell 1 rfl
   have HY := hid hY
   have HRES : Hid (CTopP w cs q kind k (.returned (.tuple #[.slice va ds.length vc, .agg #[.slice la ln lc, .slice ca cn cc], .int .i64 0])) (((w4.setCell ⟨(w.heap.size + 1), 0, none⟩ (.slice la ln lc)).setCell ⟨(w.heap.size + 1), 1, none⟩ (.slice ca cn cc)).drew)) := hid
    ⟨va, vc, HL, ds, la, ca, ln, lc, cn, cc, rfl, (((HRX.out.set (x := ⟨(w.heap.size + 1), 0, none⟩) (show (w.heap.size + 1) < w3.heap.size by omega) _).set (x := ⟨(w.heap.size + 1), 1, none⟩) (show (w.heap.size + 1) < w3.heap.size by omega) _).later ((Below.refl _ _).drew)).base (by omega), HA.out, (((HCE.out.set (x := ⟨(w.heap.size + 1), 0, none⟩) (show (w.heap.size + 1) < w3.heap.size by omega) _).set (x := ⟨(w.heap.size + 1), 1, none⟩) (show (w.heap.size + 1) < w3.heap.size by omega) _).later ((Below.refl _ _).drew)).base (by omega), (((HB0.out.trans (hb4.mono hwz)).setCell (p := ⟨(w.heap.size + 1), 0, none⟩) (show w.heap.size ≤ (w.heap.size + 1) by omega) _).setCell (p := ⟨(w.heap.size + 1), 1, none⟩) (show w.heap.size ≤ (w.heap.size + 1) by omega) _).drew⟩
   have HY3 : Hid (BoxN (((w4.setCell ⟨(w.heap.size + 1), 0, none⟩ (.slice la ln lc)).setCell ⟨(w.heap.size + 1), 1, none⟩ (.slice ca cn cc)).drew) (w.heap.size + 1) 36 #[.slice la ln lc, .slice ca cn cc]) := hid ((HY.out.set 0 (.slice la ln lc)).set 1 (.slice ca cn cc))
   clear hY hb4
   go_upto_region 5 with fail
   go_region
   have z0 := HY3.out.cell 0 rfl
   have z1 := HY3.out.cell 1 rfl
   clear y0 y1 f0 f1 v0 v1
   go_wp2
   refine bodyPost_ret (v := .tuple #[.slice va ds.length vc, .agg #[.slice la ln lc, .slice ca cn cc], .int .i64 0]) (by simp [results, Tryz.results13, go_sem, z0, z1]) rfl HRES.out
def CLeastP (w : World) (cs : List Cv) (q : List ByteArray) (kind p0 q0 : Nat) (e : Ending) (w' : World) : Prop :=
  ∃ (va : Option Addr) (vc : Nat) (H : List Nat) (ds : List Mq) (la ca : Option Addr) (ln lc cn cc : Nat), e = .returned (.tuple #[.slice va ds.length vc, .agg #[.slice la ln lc, .slice ca cn cc], .int .i64 0]) ∧ HtsRd w.heap.size w' (.slice va ds.length vc) (denK kind q.length) cs (comC cs q) H ds ∧ (∀ S, HitsOk (denK kind q.length) cs q S → H = S.filter (geU (denK kind q.length) cs q p0 q0)) ∧
    CertE False cs q (fun vs r cols => GoodL (denK kind q.length) cs vs p0 q0 r cols) w.heap.size w' (.slice la ln lc) (.slice ca cn cc) ∧ Below w.heap.size w w'
set_option maxRecDepth 100000 in
set_option maxHeartbeats 8000000 in
theorem cont_Least {w : World} {cs : List Cv} {q : List ByteArray} {ev vv lv qv : Value} (hin : SrcIn w cs q ev vv lv qv) (kind : Nat) (hk1 : 1 ≤ kind) (hk3 : kind ≤ 3) {p0 q0 nc dc : Nat} {na da : Option Addr} (hrf : Fr.RdF w (.agg #[.bool false, .slice na (Fr.dig p0).length nc, .bool false, .slice da (Fr.dig q0).length dc]) false p0 q0) (hsm : Fr.Sml p0 q0) (hp : 0 < p0) (hle : p0 ≤ q0) (ho : Fr.OneAt w) :
  Calls Tryz.prog 16 #[.int .i64 (kind : Int), .agg #[ev, vv, lv], qv, .agg #[.bool false, .slice na (Fr.dig p0).length nc, .bool false, .slice da (Fr.dig q0).length dc]] w (CLeastP w cs q kind p0 q0) := by
 have hQ : q.length ≤ 1048576 := hin.ql
 obtain ⟨ea, ec, rfl, -⟩ := id hin.rd.ents
 obtain ⟨va0, vc0, rfl, -⟩ := id hin.rd.vals
 obtain ⟨lf, ⟨la0, lc0, rfl, -⟩, -⟩ := id hin.rd.lists
 obtain ⟨qa, qc, rfl, -⟩ := id hin.qrd
 have HIN0 := hid hin
 have HO := hid ho
 have HKV : Hid (decide ((1 : Int) ≤ (kind : Int) ∧ (kind : Int) ≤ 3) = true) := hid (decide_eq_true (by omega))
 have HCV := hid (fun W => Fr.cont_Valid (kind : Int) W)
 have HRF0 := hid hrf
 have HSM := hid hsm
 have HFV := hid (fun W (hW : Below w.heap.size w W) => Fr.frac_Valid _ p0 q0 W (hrf.kept hW) hsm.num hsm.pos hsm.den hsm.low (ho.below hW))
 have HSH := hid (fun W (hW : Below w.heap.size w W) => cont_share (hrf.kept hW) hsm hp hle (ho.below hW))
 clear hrf hsm hp hle
 have HAS := hid (fun W (hW : Below w.heap.size w W) => cont_asked (hin.later hW))
 clear hin ho
 have hB0 : Below w.heap.size w (((w.alloc (.cells #[.slice ea (indexOf cs).ents.length ec, .slice va0 (indexOf cs).vals.length vc0, .slice la0 (indexOf cs).lists.length lc0] 30)).alloc (.cells #[.bool false, .slice na (Fr.dig p0).length nc, .bool false, .slice da (Fr.dig q0).length dc] 45)).alloc (.cells #[.slice none 0 0, .slice none 0 0] 36)) := (((Below.refl w.heap.size w).alloc (Nat.le_refl _) _).alloc (by rw [World.size_alloc]; omega) _).alloc (by rw [World.size_alloc, World.size_alloc]; omega) _
 have hX0 := BoxN.new w #[.slice ea (indexOf cs).ents.length ec, .slice va0 (indexOf cs).vals.length vc0, .slice la0 (indexOf cs).lists.length lc0] 30
 replace hX0 := hX0.alloc (.cells #[.bool false, .slice na (Fr.dig p0).length nc, .bool false, .slice da (Fr.dig q0).length dc] 45)
 replace hX0 := hX0.alloc (.cells #[.slice none 0 0, .slice none 0 0] 36)
 have hX1 := BoxN.new (w.alloc (.cells #[.slice ea (indexOf cs).ents.length ec, .slice va0 (indexOf cs).vals.length vc0, .slice la0 (indexOf cs).lists.length lc0] 30)) #[.bool false, .slice na (Fr.dig p0).length nc, .bool false, .slice da (Fr.dig q0).length dc] 45
 replace hX1 := hX1.alloc (.cells #[.slice none 0 0, .slice none 0 0] 36)
 have hX2 := BoxN.new ((w.alloc (.cells #[.slice ea (indexOf cs).ents.length ec, .slice va0 (indexOf cs).vals.length vc0, .slice la0 (indexOf cs).lists.length lc0] 30)).alloc (.cells #[.bool false, .slice na (Fr.dig p0).length nc, .bool false, .slice da (Fr.dig q0).length dc] 45)) #[.slice none 0 0, .slice none 0 0] 36
 simp only [World.size_alloc] at hX1 hX2
 obtain ⟨W0, hW0⟩ : ∃ V, V = (((w.alloc (.cells #[.slice ea (indexOf cs).ents.length ec, .slice va0 (indexOf cs).vals.length vc0, .slice la0 (indexOf cs).lists.length lc0] 30)).alloc (.cells #[.bool false, .slice na (Fr.dig p0).length nc, .bool false, .slice da (Fr.dig q0).length dc] 45)).alloc (.cells #[.slice none 0 0, .slice none 0 0] 36)) := ⟨_, rfl⟩
 rw [← hW0] at hB0 hX0 hX1 hX2
 have hz0 : (w.heap.size + 1 + 1) < W0.heap.size := hX2.lt
 have HB0 := hid hB0
 have HX0 := hid hX0
 have HX1 := hid hX1
 have HX2 := hid hX2
 clear hB0 hX0 hX1 hX2
 have HG := hid (fun W (hW : Below W0.heap.size W0 W) => (by
  have h1 := HX0.out.below hW HX0.out.lt
  have h2 := HX1.out.below hW HX1.out.lt
  exact ⟨h1.cell 0 rfl, h1.cell 1 rfl, h1.cell 2 rfl, h2.cell 0 rfl, h2.cell 1 rfl, h2.cell 2 rfl, h2.cell 3 rfl⟩ : W.cell? ⟨w.heap.size, 0, none⟩ = some (.slice ea (indexOf cs).ents.length ec) ∧ W.cell? ⟨w.heap.size, 1, none⟩ = some (.slice va0 (indexOf cs).vals.length vc0) ∧ W.cell? ⟨w.heap.size, 2, none⟩ = some (.slice la0 (indexOf cs).lists.length lc0) ∧ W.cell? ⟨w.heap.size + 1, 0, none⟩ = some (.bool false) ∧ W.cell? ⟨w.heap.size + 1, 1, none⟩ = some (.slice na (Fr.dig p0).length nc) ∧ W.cell? ⟨w.heap.size + 1, 2, none⟩ = some (.bool false) ∧ W.cell? ⟨w.heap.size + 1, 3, none⟩ = some (.slice da (Fr.dig q0).length dc)))
 have HC := hid ((Below.refl W0.heap.size W0).drew)
 have hwz : w.heap.size ≤ W0.heap.size := by omega
 go_enter Tryz.func16, Tryz.ntmps16
 go_upto_region 1 with fail
 rw [← hW0]
 clear hW0
 go_cut [11] from 14 to 24 (fun s11 wx => s11 = .int .i64 0 ∧ Hid (Below W0.heap.size W0 wx))
 case first =>
  go_region_held3 (fun W => W.cell? ⟨w.heap.size, 0, none⟩ = some (.slice ea (indexOf cs).ents.length ec) ∧ W.cell? ⟨w.heap.size, 1, none⟩ = some (.slice va0 (indexOf cs).vals.length vc0) ∧ W.cell? ⟨w.heap.size, 2, none⟩ = some (.slice la0 (indexOf cs).lists.length lc0) ∧ W.cell? ⟨w.heap.size + 1, 0, none⟩ = some (.bool false) ∧ W.cell? ⟨w.heap.size + 1, 1, none⟩ = some (.slice na (Fr.dig p0).length nc) ∧ W.cell? ⟨w.heap.size + 1, 2, none⟩ = some (.bool false) ∧ W.cell? ⟨w.heap.size + 1, 3, none⟩ = some (.slice da (Fr.dig q0).length dc))
   (first | exact HG.out _ HC.out | go_keep)
   (first
    | (go_at_call 48; go_must ((with_reducible refine (HCV.out _).mono ?_); rintro e w5 ⟨rfl, rfl⟩; rw [HKV.out]))
    | (go_at_call 57; go_must ((with_reducible refine (HFV.out _ (HB0.out.trans (HC.out.mono hwz))).mono ?_); rintro e w5 ⟨rfl, hb5⟩; have HC := hid (HC.out.trans (hb5.mono HC.out.size)); clear hb5))
    | (go_at_call 58; go_must ((with_reducible refine (HSH.out _ (HB0.out.trans (HC.out.mono hwz))).mono ?_); rintro e w5 ⟨rfl, hb5⟩; have HC := hid (HC.out.trans (hb5.mono HC.out.size)); clear hb5))
    | (go_at_call 51; go_must ((with_reducible refine (HAS.out _ (HB0.out.trans (HC.out.mono hwz))).mono ?_); rintro e w5 ⟨rfl, hb5⟩; have HC := hid (HC.out.trans (hb5.mono HC.out.size)); clear hb5)))
  all_goals
   go_wp2_with fail
   go_meet
   exact ⟨rfl, HC⟩
 case rest =>
  obtain ⟨rfl, HBC⟩ := hcut
  obtain ⟨w3, rfl⟩ : ∃ W, W = wc := ⟨_, rfl⟩
  have hz3 := HBC.out.size
  have HBW := hid (HB0.out.trans (HBC.out.mono hwz))
  have HGo := HG
  clear HG
  have HG := hid (fun W (hW : Below w3.heap.size w3 W) => HGo.out W (HBC.out.trans (hW.mono hz3)))
  have HIN := hid (fun W (hW : Below w3.heap.size w3 W) => HIN0.out.later (HBW.out.trans (hW.mono (by omega))))
  have HONE := hid (fun W (hW : Below w3.heap.size w3 W) => HO.out.below (HBW.out.trans (hW.mono (by omega))))
  have HRF := hid (fun W (hW : Below w3.heap.size w3 W) => HRF0.out.kept (HBW.out.trans (hW.mono (by omega))))
  clear HGo HC
  go_upto_region 4 with fail
  go_cut [12, 13] from 29 to 39 (fun s12 s13 wx => ∃ (rb : Nat) (va : Option Addr) (vc : Nat) (HL : List Nat) (ds : List Mq) (la ca : Option Addr) (ln lc cn cc : Nat), s12 = .slice va ds.length vc ∧ s13 = .pointer (some ⟨rb, 0, none⟩) ∧ w3.heap.size ≤ rb ∧ Hid (Below w3.heap.size w3 wx) ∧ Hid (BoxN wx rb 36 #[.slice la ln lc, .slice ca cn cc]) ∧ Hid (HtsRd w3.heap.size wx (.slice va ds.length vc) (denK kind q.length) cs (comC cs q) HL ds) ∧ Hid (∀ S, HitsOk (denK kind q.length) cs q S → HL = S.filter (geU (denK kind q.length) cs q p0 q0)) ∧ Hid (CertE False cs q (fun vs r cols => GoodL (denK kind q.length) cs vs p0 q0 r cols) w3.heap.size wx (.slice la ln lc) (.slice ca cn cc)))
  case first =>
   have HD := hid (show Below w3.heap.size w3 w3.drew from (Below.refl w3.heap.size w3).drew)
   refine wp_region_held_drew (S := fun W => W.cell? ⟨w.heap.size, 0, none⟩ = some (.slice ea (indexOf cs).ents.length ec) ∧ W.cell? ⟨w.heap.size, 1, none⟩ = some (.slice va0 (indexOf cs).vals.length vc0) ∧ W.cell? ⟨w.heap.size, 2, none⟩ = some (.slice la0 (indexOf cs).lists.length lc0) ∧ W.cell? ⟨w.heap.size + 1, 0, none⟩ = some (.bool false) ∧ W.cell? ⟨w.heap.size + 1, 1, none⟩ = some (.slice na (Fr.dig p0).length nc) ∧ W.cell? ⟨w.heap.size + 1, 2, none⟩ = some (.bool false) ∧ W.cell? ⟨w.heap.size + 1, 3, none⟩ = some (.slice da (Fr.dig q0).length dc)) (by kernel_rfl) (HG.out _ HD.out) (fun hHeld => ?_)
   generalize w3.drew = Wd at *
   refine wpAnyH_take (i := 0) (v := ?_) (by simp only [List.getElem?_toArray, List.getElem?_cons_zero, List.getElem?_cons_succ]; rfl) (by kernel_rfl) (by kernel_rfl) (by kernel_rfl) (by intro _ _ _ h; exact h) (Or.inl ⟨by rfl, ?_⟩) (by assumption) ?_
   rotate_left
   ·(intro w' hSw; (try dsimp only at hSw); go_simp) <;> with_reducible rfl
   try simp only [Act.put, List.setIfInBounds_toArray, List.set_cons_zero, List.set_cons_succ]
   refine wpAnyH_take (i := 1) (v := ?_) (by simp only [List.getElem?_toArray, List.getElem?_cons_zero, List.getElem?_cons_succ]; rfl) (by kernel_rfl) (by kernel_rfl) (by kernel_rfl) (by intro _ _ _ h; exact h) (Or.inl ⟨by rfl, ?_⟩) (by assumption) ?_
   rotate_left
   ·(intro w' hSw; (try dsimp only at hSw); go_simp) <;> with_reducible rfl
   try simp only [Act.put, List.setIfInBounds_toArray, List.set_cons_zero, List.set_cons_succ]
   refine wpAnyH_take (i := 2) (v := ?_) (by simp only [List.getElem?_toArray, List.getElem?_cons_zero, List.getElem?_cons_succ]; rfl) (by kernel_rfl) (by kernel_rfl) (by kernel_rfl) (by intro _ _ _ h; exact h) (Or.inl ⟨by rfl, ?_⟩) (by assumption) ?_
   rotate_left
   ·(intro w' hSw; (try dsimp only at hSw); go_simp) <;> with_reducible rfl
   try simp only [Act.put, List.setIfInBounds_toArray, List.set_cons_zero, List.set_cons_succ]
   refine wpAnyH_take (i := 3) (v := ?_) (by simp only [List.getElem?_toArray, List.getElem?_cons_zero, List.getElem?_cons_succ]; rfl) (by kernel_rfl) (by kernel_rfl) (by kernel_rfl) (by intro _ _ _ h; exact h) (Or.inl ⟨by rfl, ?_⟩) (by assumption) ?_
   rotate_left
   ·(intro w' hSw; (try dsimp only at hSw); go_simp) <;> with_reducible rfl
   try simp only [Act.put, List.setIfInBounds_toArray, List.set_cons_zero, List.set_cons_succ]
   refine wpAnyH_take (i := 4) (v := ?_) (by simp only [List.getElem?_toArray, List.getElem?_cons_zero, List.getElem?_cons_succ]; rfl) (by kernel_rfl) (by kernel_rfl) (by kernel_rfl) (by intro _ _ _ h; exact h) (Or.inl ⟨by rfl, ?_⟩) (by assumption) ?_
   rotate_left
   ·(intro w' hSw; (try dsimp only at hSw); go_simp) <;> with_reducible rfl
   try simp only [Act.put, List.setIfInBounds_toArray, List.set_cons_zero, List.set_cons_succ]
   refine wpAnyH_take (i := 5) (v := ?_) (by simp only [List.getElem?_toArray, List.getElem?_cons_zero, List.getElem?_cons_succ]; rfl) (by kernel_rfl) (by kernel_rfl) (by kernel_rfl) (by intro _ _ _ h; exact h) (Or.inl ⟨by rfl, ?_⟩) (by assumption) ?_
   rotate_left
   ·(intro w' hSw; (try dsimp only at hSw); go_simp) <;> with_reducible rfl
   try simp only [Act.put, List.setIfInBounds_toArray, List.set_cons_zero, List.set_cons_succ]
   refine wpAnyH_ready (rs := [6, 11]) (by kernel_rfl) (by simp) ?_
   refine AllReadyH.cons (by simp only [List.getElem?_toArray, List.getElem?_cons_zero, List.getElem?_cons_succ]; rfl) (fun K hK => ?_) ?_
   ·go_simp
    go_at_call 54
    go_must ((with_reducible refine (cont_of kind q.length Wd).mono ?_); rintro e wc0 ⟨rfl, hwv⟩; have hbc : Below Wd.heap.size Wd wc0 := (by rw [hwv]; exact ((Below.refl _ _).alloc (Nat.le_refl _) _).alloc (by rw [World.size_alloc]; omega) _); have HBc0 := hid (HD.out.trans (hbc.mono HD.out.size)); have HSC := hid (sco_cont hk1 hk3 hQ (show BoxN wc0 Wd.heap.size 3 #[.int .i64 (kind : Int)] by rw [hwv]; exact (BoxN.new _ _ _).alloc _) (show BoxN wc0 (Wd.heap.size + 1) 3 #[.int .i64 (q.length : Int)] by (rw [hwv]; have hb := BoxN.new (Wd.alloc (.cells #[.int .i64 (kind : Int)] 3)) #[.int .i64 (q.length : Int)] 3; rw [World.size_alloc] at hb; exact hb))); clear hwv; have HKHSC0 := hid (Below.refl wc0.heap.size wc0); clear hbc)
    (try go_wp2_with fail)
    refine hK.out _ _ (HG.out _ HBc0.out) (fun hHeld => ?_)
    clear hK K
    try simp only [Act.put, List.setIfInBounds_toArray, List.set_cons_zero, List.set_cons_succ]
    refine wpAnyH_ready (rs := [7, 11]) (by kernel_rfl) (by simp) ?_
    refine AllReadyH.cons (by simp only [List.getElem?_toArray, List.getElem?_cons_zero, List.getElem?_cons_succ]; rfl) (fun K hK => ?_) ?_
    ·go_simp
     go_at_call 59
     go_must ((with_reducible refine (bnd_Least (HIN.out wc0 HBc0.out) (ScoOk.later HSC.out HKHSC0.out) (HRF.out wc0 HBc0.out) HSM.out (HONE.out wc0 HBc0.out)).mono ?_); rintro e wc1 ⟨va, vc, HL, ds, la, ca, ln, lc, cn, cc, rfl, hrd, hall, hcert, hbc⟩; have HA := hid hall; clear hall; have HBc1 := hid (HBc0.out.trans (hbc.mono HBc0.out.size)); have HKHSC1 := hid (HKHSC0.out.trans (hbc.mono HKHSC0.out.size)); have hbz := HBc0.out.size; have HR := hid hrd; clear hrd; have HKHR1 := hid (Below.refl wc1.heap.size wc1); have HC := hid (show CertE False cs q (fun vs r cols => GoodL (denK kind q.length) cs vs p0 q0 r cols) wc0.heap.size wc1 (.slice la ln lc) (.slice ca cn cc) from .inr hcert); clear hcert; have HKHC1 := hid (Below.refl wc1.heap.size wc1); clear hbc)
     (try go_wp2_with fail)
     refine hK.out _ _ (HG.out _ HBc1.out) (fun hHeld => ?_)
     clear hK K
     try simp only [Act.put, List.setIfInBounds_toArray, List.set_cons_zero, List.set_cons_succ]
     refine wpAnyH_take (i := 8) (v := ?_) (by simp only [List.getElem?_toArray, List.getElem?_cons_zero, List.getElem?_cons_succ]; rfl) (by kernel_rfl) (by kernel_rfl) (by kernel_rfl) (by intro _ _ _ h; exact h) (Or.inl ⟨by rfl, ?_⟩) (by assumption) ?_
     rotate_left
     ·(intro w' hSw; (try dsimp only at hSw); go_simp) <;> with_reducible rfl
     try simp only [Act.put, List.setIfInBounds_toArray, List.set_cons_zero, List.set_cons_succ]
     refine wpAnyH_take (i := 9) (v := ?_) (by simp only [List.getElem?_toArray, List.getElem?_cons_zero, List.getElem?_cons_succ]; rfl) (by kernel_rfl) (by kernel_rfl) (by kernel_rfl) (by intro _ _ _ h; exact h) (Or.inl ⟨by rfl, ?_⟩) (by assumption) ?_
     rotate_left
     ·(intro w' hSw; (try dsimp only at hSw); go_simp) <;> with_reducible rfl
     try simp only [Act.put, List.setIfInBounds_toArray, List.set_cons_zero, List.set_cons_succ]
     refine wpAnyH_take (i := 10) (v := ?_) (by simp only [List.getElem?_toArray, List.getElem?_cons_zero, List.getElem?_cons_succ]; rfl) (by kernel_rfl) (by kernel_rfl) (by kernel_rfl) (by intro _ _ _ h; exact h) (Or.inl ⟨by rfl, ?_⟩) (by assumption) ?_
     rotate_left
     ·(intro w' hSw; (try dsimp only at hSw); go_simp) <;> with_reducible rfl
     try simp only [Act.put, List.setIfInBounds_toArray, List.set_cons_zero, List.set_cons_succ]
     refine wpAnyH_ready (rs := [11]) (by kernel_rfl) (by simp) ?_
     refine AllReadyH.cons (by simp only [List.getElem?_toArray, List.getElem?_cons_zero, List.getElem?_cons_succ]; rfl) (fun K hK => ?_) ?_
     ·go_simp
      have HBa2 := hid (HBc1.out.alloc HBc1.out.size (.cells #[.slice none 0 0, .slice none 0 0] 36))
      have HXa2 := hid (BoxN.new wc1 #[.slice none 0 0, .slice none 0 0] 36)
      have hloHSC : wc0.heap.size ≤ wc1.heap.size := HKHSC1.out.size
      have HKHSC2 := hid (HKHSC1.out.alloc HKHSC1.out.size (.cells #[.slice none 0 0, .slice none 0 0] 36))
      have hloHR : wc1.heap.size ≤ wc1.heap.size := HKHR1.out.size
      have HKHR2 := hid (HKHR1.out.alloc HKHR1.out.size (.cells #[.slice none 0 0, .slice none 0 0] 36))
      have hloHC : wc1.heap.size ≤ wc1.heap.size := HKHC1.out.size
      have HKHC2 := hid (HKHC1.out.alloc HKHC1.out.size (.cells #[.slice none 0 0, .slice none 0 0] 36))
      refine hK.out _ _ (HG.out _ HBa2.out) (fun hHeld => ?_)
      clear hK K
      try simp only [Act.put, List.setIfInBounds_toArray, List.set_cons_zero, List.set_cons_succ]
      obtain ⟨Wa2, hWa2⟩ : ∃ V, V = World.alloc wc1 (.cells #[.slice none 0 0, .slice none 0 0] 36) := ⟨_, rfl⟩
      rw [← hWa2] at HBa2 HXa2 HKHSC2 HKHR2 HKHC2 hHeld ⊢
      clear hWa2
      refine wpAnyH_take (i := 12) (v := ?_) (by simp only [List.getElem?_toArray, List.getElem?_cons_zero, List.getElem?_cons_succ]; rfl) (by kernel_rfl) (by kernel_rfl) (by kernel_rfl) (by intro _ _ _ h; exact h) (Or.inl ⟨by rfl, ?_⟩) (by assumption) ?_
      rotate_left
      ·(intro w' hSw; (try dsimp only at hSw); go_simp) <;> with_reducible rfl
      try simp only [Act.put, List.setIfInBounds_toArray, List.set_cons_zero, List.set_cons_succ]
      refine wpAnyH_ready (rs := [13]) (by kernel_rfl) (by simp) ?_
      refine AllReadyH.cons (by simp only [List.getElem?_toArray, List.getElem?_cons_zero, List.getElem?_cons_succ]; rfl) (fun K hK => ?_) AllReadyH.nil
      have e0 := HXa2.out.cell 0 rfl
      have f0 := HXa2.out.frozen 0
      have e1 := HXa2.out.cell 1 rfl
      have f1 := HXa2.out.frozen 1
      have hlo : w3.heap.size ≤ wc1.heap.size := HBc1.out.size
      go_simp
      have g0 : BoxN _ wc1.heap.size 36 #[.slice la ln lc, .slice none 0 0] := HXa2.out.set 0 (.slice la ln lc)
      have h0 := HBa2.out.setCell (p := ⟨wc1.heap.size, 0, none⟩) hlo (.slice la ln lc)
      have g1 : BoxN _ wc1.heap.size 36 #[.slice la ln lc, .slice ca cn cc] := g0.set 1 (.slice ca cn cc)
      have h1 := h0.setCell (p := ⟨wc1.heap.size, 1, none⟩) hlo (.slice ca cn cc)
      have HGX := hid g1
      have HHX := hid h1
      have HZHR := hid (HtsRd.later (HR.out) ((HKHR2.out.setCell (p := ⟨wc1.heap.size, 0, none⟩) hloHR (.slice la ln lc)).setCell (p := ⟨wc1.heap.size, 1, none⟩) hloHR (.slice ca cn cc)))
      have HZHC := hid (CertE.later (HC.out) ((HKHC2.out.setCell (p := ⟨wc1.heap.size, 0, none⟩) hloHC (.slice la ln lc)).setCell (p := ⟨wc1.heap.size, 1, none⟩) hloHC (.slice ca cn cc)))
      clear g0 h0 e0 f0 g1 h1 e1 f1
      refine hK.out _ _ (HG.out _ HHX.out) (fun hHeld => ?_)
      clear hK K
      try simp only [Act.put, List.setIfInBounds_toArray, List.set_cons_zero, List.set_cons_succ]
      refine wpAnyH_done (by kernel_rfl) ?_ _
      go_wp2_with fail
      go_meet
      exact ⟨_, va, vc, HL, ds, la, ca, ln, lc, cn, cc, rfl, rfl, hlo, HHX, HGX, hid (HZHR.out.base hbz), HA, hid (HZHC.out.base hbz)⟩
     exact AllReadyH.nil
    refine AllReadyH.cons (by simp only [List.getElem?_toArray, List.getElem?_cons_zero, List.getElem?_cons_succ]; rfl) (fun K hK => ?_) ?_
    ·go_simp
     have HBa1 := hid (HBc0.out.alloc HBc0.out.size (.cells #[.slice none 0 0, .slice none 0 0] 36))
     have HXa1 := hid (BoxN.new wc0 #[.slice none 0 0, .slice none 0 0] 36)
     have hloHSC : wc0.heap.size ≤ wc0.heap.size := HKHSC0.out.size
     have HKHSC1 := hid (HKHSC0.out.alloc HKHSC0.out.size (.cells #[.slice none 0 0, .slice none 0 0] 36))
     refine hK.out _ _ (HG.out _ HBa1.out) (fun hHeld => ?_)
     clear hK K
     try simp only [Act.put, List.setIfInBounds_toArray, List.set_cons_zero, List.set_cons_succ]
     obtain ⟨Wa1, hWa1⟩ : ∃ V, V = World.alloc wc0 (.cells #[.slice none 0 0, .slice none 0 0] 36) := ⟨_, rfl⟩
     rw [← hWa1] at HBa1 HXa1 HKHSC1 hHeld ⊢
     clear hWa1
     refine wpAnyH_ready (rs := [7]) (by kernel_rfl) (by simp) ?_
     refine AllReadyH.cons (by simp only [List.getElem?_toArray, List.getElem?_cons_zero, List.getElem?_cons_succ]; rfl) (fun K hK => ?_) ?_
     ·go_simp
      go_at_call 59
      go_must ((with_reducible refine (bnd_Least (HIN.out Wa1 HBa1.out) (ScoOk.later HSC.out HKHSC1.out) (HRF.out Wa1 HBa1.out) HSM.out (HONE.out Wa1 HBa1.out)).mono ?_); rintro e wc2 ⟨va, vc, HL, ds, la, ca, ln, lc, cn, cc, rfl, hrd, hall, hcert, hbc⟩; have HA := hid hall; clear hall; have HBc2 := hid (HBa1.out.trans (hbc.mono HBa1.out.size)); have HXc2 := hid (HXa1.out.below hbc HXa1.out.lt); have HKHSC2 := hid (HKHSC1.out.trans (hbc.mono HKHSC1.out.size)); have hbz := HBa1.out.size; have HR := hid hrd; clear hrd; have HKHR2 := hid (Below.refl wc2.heap.size wc2); have hrbHR : wc0.heap.size < Wa1.heap.size := HXa1.out.lt; have HC := hid (show CertE False cs q (fun vs r cols => GoodL (denK kind q.length) cs vs p0 q0 r cols) Wa1.heap.size wc2 (.slice la ln lc) (.slice ca cn cc) from .inr hcert); clear hcert; have HKHC2 := hid (Below.refl wc2.heap.size wc2); have hrbHC : wc0.heap.size < Wa1.heap.size := HXa1.out.lt; clear hbc)
      (try go_wp2_with fail)
      refine hK.out _ _ (HG.out _ HBc2.out) (fun hHeld => ?_)
      clear hK K
      try simp only [Act.put, List.setIfInBounds_toArray, List.set_cons_zero, List.set_cons_succ]
      refine wpAnyH_take (i := 8) (v := ?_) (by simp only [List.getElem?_toArray, List.getElem?_cons_zero, List.getElem?_cons_succ]; rfl) (by kernel_rfl) (by kernel_rfl) (by kernel_rfl) (by intro _ _ _ h; exact h) (Or.inl ⟨by rfl, ?_⟩) (by assumption) ?_
      rotate_left
      ·(intro w' hSw; (try dsimp only at hSw); go_simp) <;> with_reducible rfl
      try simp only [Act.put, List.setIfInBounds_toArray, List.set_cons_zero, List.set_cons_succ]
      refine wpAnyH_take (i := 9) (v := ?_) (by simp only [List.getElem?_toArray, List.getElem?_cons_zero, List.getElem?_cons_succ]; rfl) (by kernel_rfl) (by kernel_rfl) (by kernel_rfl) (by intro _ _ _ h; exact h) (Or.inl ⟨by rfl, ?_⟩) (by assumption) ?_
      rotate_left
      ·(intro w' hSw; (try dsimp only at hSw); go_simp) <;> with_reducible rfl
      try simp only [Act.put, List.setIfInBounds_toArray, List.set_cons_zero, List.set_cons_succ]
      refine wpAnyH_take (i := 10) (v := ?_) (by simp only [List.getElem?_toArray, List.getElem?_cons_zero, List.getElem?_cons_succ]; rfl) (by kernel_rfl) (by kernel_rfl) (by kernel_rfl) (by intro _ _ _ h; exact h) (Or.inl ⟨by rfl, ?_⟩) (by assumption) ?_
      rotate_left
      ·(intro w' hSw; (try dsimp only at hSw); go_simp) <;> with_reducible rfl
      try simp only [Act.put, List.setIfInBounds_toArray, List.set_cons_zero, List.set_cons_succ]
      refine wpAnyH_take (i := 12) (v := ?_) (by simp only [List.getElem?_toArray, List.getElem?_cons_zero, List.getElem?_cons_succ]; rfl) (by kernel_rfl) (by kernel_rfl) (by kernel_rfl) (by intro _ _ _ h; exact h) (Or.inl ⟨by rfl, ?_⟩) (by assumption) ?_
      rotate_left
      ·(intro w' hSw; (try dsimp only at hSw); go_simp) <;> with_reducible rfl
      try simp only [Act.put, List.setIfInBounds_toArray, List.set_cons_zero, List.set_cons_succ]
      refine wpAnyH_ready (rs := [13]) (by kernel_rfl) (by simp) ?_
      refine AllReadyH.cons (by simp only [List.getElem?_toArray, List.getElem?_cons_zero, List.getElem?_cons_succ]; rfl) (fun K hK => ?_) AllReadyH.nil
      have e0 := HXc2.out.cell 0 rfl
      have f0 := HXc2.out.frozen 0
      have e1 := HXc2.out.cell 1 rfl
      have f1 := HXc2.out.frozen 1
      have hlo : w3.heap.size ≤ wc0.heap.size := HBc0.out.size
      go_simp
      have g0 : BoxN _ wc0.heap.size 36 #[.slice la ln lc, .slice none 0 0] := HXc2.out.set 0 (.slice la ln lc)
      have h0 := HBc2.out.setCell (p := ⟨wc0.heap.size, 0, none⟩) hlo (.slice la ln lc)
      have g1 : BoxN _ wc0.heap.size 36 #[.slice la ln lc, .slice ca cn cc] := g0.set 1 (.slice ca cn cc)
      have h1 := h0.setCell (p := ⟨wc0.heap.size, 1, none⟩) hlo (.slice ca cn cc)
      have HGX := hid g1
      have HHX := hid h1
      have HZHR := hid ((HtsRd.set ((HtsRd.set ((HtsRd.later (HR.out) HKHR2.out)) (x := ⟨wc0.heap.size, 0, none⟩) hrbHR (.slice la ln lc))) (x := ⟨wc0.heap.size, 1, none⟩) hrbHR (.slice ca cn cc)))
      have HZHC := hid ((CertE.set ((CertE.set ((CertE.later (HC.out) HKHC2.out)) (x := ⟨wc0.heap.size, 0, none⟩) hrbHC (.slice la ln lc))) (x := ⟨wc0.heap.size, 1, none⟩) hrbHC (.slice ca cn cc)))
      clear g0 h0 e0 f0 g1 h1 e1 f1
      refine hK.out _ _ (HG.out _ HHX.out) (fun hHeld => ?_)
      clear hK K
      try simp only [Act.put, List.setIfInBounds_toArray, List.set_cons_zero, List.set_cons_succ]
      refine wpAnyH_done (by kernel_rfl) ?_ _
      go_wp2_with fail
      go_meet
      exact ⟨_, va, vc, HL, ds, la, ca, ln, lc, cn, cc, rfl, rfl, hlo, HHX, HGX, hid (HZHR.out.base hbz), HA, hid (HZHC.out.base hbz)⟩
     exact AllReadyH.nil
    exact AllReadyH.nil
   refine AllReadyH.cons (by simp only [List.getElem?_toArray, List.getElem?_cons_zero, List.getElem?_cons_succ]; rfl) (fun K hK => ?_) ?_
   ·go_simp
    have HBa0 := hid (HD.out.alloc HD.out.size (.cells #[.slice none 0 0, .slice none 0 0] 36))
    have HXa0 := hid (BoxN.new Wd #[.slice none 0 0, .slice none 0 0] 36)
    refine hK.out _ _ (HG.out _ HBa0.out) (fun hHeld => ?_)
    clear hK K
    try simp only [Act.put, List.setIfInBounds_toArray, List.set_cons_zero, List.set_cons_succ]
    obtain ⟨Wa0, hWa0⟩ : ∃ V, V = World.alloc Wd (.cells #[.slice none 0 0, .slice none 0 0] 36) := ⟨_, rfl⟩
    rw [← hWa0] at HBa0 HXa0  hHeld ⊢
    clear hWa0
    refine wpAnyH_ready (rs := [6]) (by kernel_rfl) (by simp) ?_
    refine AllReadyH.cons (by simp only [List.getElem?_toArray, List.getElem?_cons_zero, List.getElem?_cons_succ]; rfl) (fun K hK => ?_) ?_
    ·go_simp
     go_at_call 54
     go_must ((with_reducible refine (cont_of kind q.length Wa0).mono ?_); rintro e wc1 ⟨rfl, hwv⟩; have hbc : Below Wa0.heap.size Wa0 wc1 := (by rw [hwv]; exact ((Below.refl _ _).alloc (Nat.le_refl _) _).alloc (by rw [World.size_alloc]; omega) _); have HBc1 := hid (HBa0.out.trans (hbc.mono HBa0.out.size)); have HXc1 := hid (HXa0.out.below hbc HXa0.out.lt); have HSC := hid (sco_cont hk1 hk3 hQ (show BoxN wc1 Wa0.heap.size 3 #[.int .i64 (kind : Int)] by rw [hwv]; exact (BoxN.new _ _ _).alloc _) (show BoxN wc1 (Wa0.heap.size + 1) 3 #[.int .i64 (q.length : Int)] by (rw [hwv]; have hb := BoxN.new (Wa0.alloc (.cells #[.int .i64 (kind : Int)] 3)) #[.int .i64 (q.length : Int)] 3; rw [World.size_alloc] at hb; exact hb))); clear hwv; have HKHSC1 := hid (Below.refl wc1.heap.size wc1); have hrbHSC : Wd.heap.size < Wa0.heap.size := HXa0.out.lt; clear hbc)
     (try go_wp2_with fail)
     refine hK.out _ _ (HG.out _ HBc1.out) (fun hHeld => ?_)
     clear hK K
     try simp only [Act.put, List.setIfInBounds_toArray, List.set_cons_zero, List.set_cons_succ]
     refine wpAnyH_ready (rs := [7]) (by kernel_rfl) (by simp) ?_
     refine AllReadyH.cons (by simp only [List.getElem?_toArray, List.getElem?_cons_zero, List.getElem?_cons_succ]; rfl) (fun K hK => ?_) ?_
     ·go_simp
      go_at_call 59
      go_must ((with_reducible refine (bnd_Least (HIN.out wc1 HBc1.out) (ScoOk.later HSC.out HKHSC1.out) (HRF.out wc1 HBc1.out) HSM.out (HONE.out wc1 HBc1.out)).mono ?_); rintro e wc2 ⟨va, vc, HL, ds, la, ca, ln, lc, cn, cc, rfl, hrd, hall, hcert, hbc⟩; have HA := hid hall; clear hall; have HBc2 := hid (HBc1.out.trans (hbc.mono HBc1.out.size)); have HXc2 := hid (HXc1.out.below hbc HXc1.out.lt); have HKHSC2 := hid (HKHSC1.out.trans (hbc.mono HKHSC1.out.size)); have hbz := HBc1.out.size; have HR := hid hrd; clear hrd; have HKHR2 := hid (Below.refl wc2.heap.size wc2); have hrbHR : Wd.heap.size < wc1.heap.size := HXc1.out.lt; have HC := hid (show CertE False cs q (fun vs r cols => GoodL (denK kind q.length) cs vs p0 q0 r cols) wc1.heap.size wc2 (.slice la ln lc) (.slice ca cn cc) from .inr hcert); clear hcert; have HKHC2 := hid (Below.refl wc2.heap.size wc2); have hrbHC : Wd.heap.size < wc1.heap.size := HXc1.out.lt; clear hbc)
      (try go_wp2_with fail)
      refine hK.out _ _ (HG.out _ HBc2.out) (fun hHeld => ?_)
      clear hK K
      try simp only [Act.put, List.setIfInBounds_toArray, List.set_cons_zero, List.set_cons_succ]
      refine wpAnyH_take (i := 8) (v := ?_) (by simp only [List.getElem?_toArray, List.getElem?_cons_zero, List.getElem?_cons_succ]; rfl) (by kernel_rfl) (by kernel_rfl) (by kernel_rfl) (by intro _ _ _ h; exact h) (Or.inl ⟨by rfl, ?_⟩) (by assumption) ?_
      rotate_left
      ·(intro w' hSw; (try dsimp only at hSw); go_simp) <;> with_reducible rfl
      try simp only [Act.put, List.setIfInBounds_toArray, List.set_cons_zero, List.set_cons_succ]
      refine wpAnyH_take (i := 9) (v := ?_) (by simp only [List.getElem?_toArray, List.getElem?_cons_zero, List.getElem?_cons_succ]; rfl) (by kernel_rfl) (by kernel_rfl) (by kernel_rfl) (by intro _ _ _ h; exact h) (Or.inl ⟨by rfl, ?_⟩) (by assumption) ?_
      rotate_left
      ·(intro w' hSw; (try dsimp only at hSw); go_simp) <;> with_reducible rfl
      try simp only [Act.put, List.setIfInBounds_toArray, List.set_cons_zero, List.set_cons_succ]
      refine wpAnyH_take (i := 10) (v := ?_) (by simp only [List.getElem?_toArray, List.getElem?_cons_zero, List.getElem?_cons_succ]; rfl) (by kernel_rfl) (by kernel_rfl) (by kernel_rfl) (by intro _ _ _ h; exact h) (Or.inl ⟨by rfl, ?_⟩) (by assumption) ?_
      rotate_left
      ·(intro w' hSw; (try dsimp only at hSw); go_simp) <;> with_reducible rfl
      try simp only [Act.put, List.setIfInBounds_toArray, List.set_cons_zero, List.set_cons_succ]
      refine wpAnyH_take (i := 12) (v := ?_) (by simp only [List.getElem?_toArray, List.getElem?_cons_zero, List.getElem?_cons_succ]; rfl) (by kernel_rfl) (by kernel_rfl) (by kernel_rfl) (by intro _ _ _ h; exact h) (Or.inl ⟨by rfl, ?_⟩) (by assumption) ?_
      rotate_left
      ·(intro w' hSw; (try dsimp only at hSw); go_simp) <;> with_reducible rfl
      try simp only [Act.put, List.setIfInBounds_toArray, List.set_cons_zero, List.set_cons_succ]
      refine wpAnyH_ready (rs := [13]) (by kernel_rfl) (by simp) ?_
      refine AllReadyH.cons (by simp only [List.getElem?_toArray, List.getElem?_cons_zero, List.getElem?_cons_succ]; rfl) (fun K hK => ?_) AllReadyH.nil
      have e0 := HXc2.out.cell 0 rfl
      have f0 := HXc2.out.frozen 0
      have e1 := HXc2.out.cell 1 rfl
      have f1 := HXc2.out.frozen 1
      have hlo : w3.heap.size ≤ Wd.heap.size := HD.out.size
      go_simp
      have g0 : BoxN _ Wd.heap.size 36 #[.slice la ln lc, .slice none 0 0] := HXc2.out.set 0 (.slice la ln lc)
      have h0 := HBc2.out.setCell (p := ⟨Wd.heap.size, 0, none⟩) hlo (.slice la ln lc)
      have g1 : BoxN _ Wd.heap.size 36 #[.slice la ln lc, .slice ca cn cc] := g0.set 1 (.slice ca cn cc)
      have h1 := h0.setCell (p := ⟨Wd.heap.size, 1, none⟩) hlo (.slice ca cn cc)
      have HGX := hid g1
      have HHX := hid h1
      have HZHR := hid ((HtsRd.set ((HtsRd.set ((HtsRd.later (HR.out) HKHR2.out)) (x := ⟨Wd.heap.size, 0, none⟩) hrbHR (.slice la ln lc))) (x := ⟨Wd.heap.size, 1, none⟩) hrbHR (.slice ca cn cc)))
      have HZHC := hid ((CertE.set ((CertE.set ((CertE.later (HC.out) HKHC2.out)) (x := ⟨Wd.heap.size, 0, none⟩) hrbHC (.slice la ln lc))) (x := ⟨Wd.heap.size, 1, none⟩) hrbHC (.slice ca cn cc)))
      clear g0 h0 e0 f0 g1 h1 e1 f1
      refine hK.out _ _ (HG.out _ HHX.out) (fun hHeld => ?_)
      clear hK K
      try simp only [Act.put, List.setIfInBounds_toArray, List.set_cons_zero, List.set_cons_succ]
      refine wpAnyH_done (by kernel_rfl) ?_ _
      go_wp2_with fail
      go_meet
      exact ⟨_, va, vc, HL, ds, la, ca, ln, lc, cn, cc, rfl, rfl, hlo, HHX, HGX, hid (HZHR.out.base hbz), HA, hid (HZHC.out.base hbz)⟩
     exact AllReadyH.nil
    exact AllReadyH.nil
   exact AllReadyH.nil
  case rest =>
   obtain ⟨rb, va, vc, HL, ds, la, ca, ln, lc, cn, cc, rfl, rfl, hrb, HBX, HCX, HRX, HA, HCE⟩ := hcut
   obtain ⟨w4, rfl⟩ : ∃ W, W = wc := ⟨_, rfl⟩
   have hb4 := HBC.out.trans (HBX.out.mono hz3)
   have hY := HX2.out.below hb4 HX2.out.lt
   have y0 := hY.cell 0 rfl
   have y1 := hY.cell 1 rfl
   have f0 := hY.frozen 0
   have f1 := hY.frozen 1
   have v0 := HCX.out.cell 0 rfl
   have v1 := HCX.out.cell 1 rfl
   have HY := hid hY
   have HRES : Hid (CLeastP w cs q kind p0 q0 (.returned (.tuple #[.slice va ds.length vc, .agg #[.slice la ln lc, .slice ca cn cc], .int .i64 0])) (((w4.setCell ⟨(w.heap.size + 1 + 1), 0, none⟩ (.slice la ln lc)).setCell ⟨(w.heap.size + 1 + 1), 1, none⟩ (.slice ca cn cc)).drew)) := hid
    ⟨va, vc, HL, ds, la, ca, ln, lc, cn, cc, rfl, (((HRX.out.set (x := ⟨(w.heap.size + 1 + 1), 0, none⟩) (show (w.heap.size + 1 + 1) < w3.heap.size by omega) _).set (x := ⟨(w.heap.size + 1 + 1), 1, none⟩) (show (w.heap.size + 1 + 1) < w3.heap.size by omega) _).later ((Below.refl _ _).drew)).base (by omega), HA.out, (((HCE.out.set (x := ⟨(w.heap.size + 1 + 1), 0, none⟩) (show (w.heap.size + 1 + 1) < w3.heap.size by omega) _).set (x := ⟨(w.heap.size + 1 + 1), 1, none⟩) (show (w.heap.size + 1 + 1) < w3.heap.size by omega) _).later ((Below.refl _ _).drew)).base (by omega), (((HB0.out.trans (hb4.mono hwz)).setCell (p := ⟨(w.heap.size + 1 + 1), 0, none⟩) (show w.heap.size ≤ (w.heap.size + 1 + 1) by omega) _).setCell (p := ⟨(w.heap.size + 1 + 1), 1, none⟩) (show w.heap.size ≤ (w.heap.size + 1 + 1) by omega) _).drew⟩
   have HY3 : Hid (BoxN (((w4.setCell ⟨(w.heap.size + 1 + 1), 0, none⟩ (.slice la ln lc)).setCell ⟨(w.heap.size + 1 + 1), 1, none⟩ (.slice ca cn cc)).drew) (w.heap.size + 1 + 1) 36 #[.slice la ln lc, .slice ca cn cc]) := hid ((HY.out.set 0 (.slice la ln lc)).set 1 (.slice ca cn cc))
   clear hY hb4
   go_upto_region 5 with fail
   go_region
   have z0 := HY3.out.cell 0 rfl
   have z1 := HY3.out.cell 1 rfl
   clear y0 y1 f0 f1 v0 v1
   go_wp2
   refine bodyPost_ret (v := .tuple #[.slice va ds.length vc, .agg #[.slice la ln lc, .slice ca cn cc], .int .i64 0]) (by simp [results, Tryz.results16, go_sem, z0, z1]) rfl HRES.out
end Go.Proofs.YtikiimlmoalbcaaGreatDoor
