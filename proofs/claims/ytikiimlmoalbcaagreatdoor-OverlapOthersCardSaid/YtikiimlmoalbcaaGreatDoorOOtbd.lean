/- Contract of (*bounded.search).hits. -/
import Derived.Deep.RegionHeld3
import Derived.Deep.Cut
import Derived.Deep.CutRange
import Derived.Test.YtikiimlmoalbcaaGreatDoorOOtbc
set_option linter.unusedVariables false
set_option linter.unusedSimpArgs false
namespace Go.Proofs.YtikiimlmoalbcaaGreatDoor
open Go.RowKit
theorem tkbd {P : Program} {ops : Array Oper} {Q : Exit → Act → World → Prop} {md : Region.Mode} {S : World → Prop} {i : Nat} {oi : Oper} {v : Value} {fuel : Nat} {listed : Array Bool} {a : Act} {w : World} (a1 : ops[i]? = some oi := by simp only [List.getElem?_toArray, List.getElem?_cons_zero, List.getElem?_cons_succ]; rfl)
    (a2 : Region.noSelect ops = true := by kernel_rfl) (a3 : Region.free md ops listed i = true := by kernel_rfl) (a4 : (Region.ready md ops listed).contains i = true := by kernel_rfl) (a5 : ∀ (c : List PanicEntry) (a : Act) (w : World), Q (Exit.panic c) (a.put oi.dst v) w → Q (Exit.panic c) a w := by intro _ _ _ h; exact h)
    (y : YieldsIf P ops S oi v a) (a6 : S w := by assumption) (z : wpAnyH P md ops Q S fuel (listed.setIfInBounds i true) (a.put oi.dst v) w) : wpAnyH P md ops Q S (fuel + 1) listed a w := wpAnyH_take a1 a2 a3 a4 a5 y a6 z
theorem csbd {P : Program} {ops : Array Oper} {Q : Exit → Act → World → Prop} {md : Region.Mode} {S : World → Prop} {fuel : Nat} {listed : Array Bool} {a : Act} {w : World} {i : Nat} {o : Oper} {rs : List Nat} (a1 : ops[i]? = some o := by simp only [List.getElem?_toArray, List.getElem?_cons_zero, List.getElem?_cons_succ]; rfl)
    (x : ∀ (K' : Act → World → Prop), Shut (∀ (a : Act) (w : World), S w → (S w → wpAnyH P md ops Q S fuel (listed.setIfInBounds i true) a w) → K' a w) → if Region.wanted o (yielded ops a.tmps) = true then Oper.wp P o a w K' Q else K' (a.put o.dst undef) w)
    (y : AllReadyH P md ops Q S fuel listed a w rs) : AllReadyH P md ops Q S fuel listed a w (i :: rs) := AllReadyH.cons a1 x y
def HitsP (w : World) (den : Nat → Nat → Nat) (cs : List Cv) (q vs : List ByteArray) (r : Nat) (cols sl : List Nat) (cv : Value) (e : Ending) (w' : World) : Prop :=
  ∃ (v : Value) (H : List Nat) (ds : List Mq) (sa : Option Addr) (sc T : Nat), e = .returned (.tuple #[v, .agg #[.slice sa r sc, cv]]) ∧ w.heap.size ≤ T ∧ T ≤ w'.heap.size ∧ HtsOf T w' v den cs (comC cs q) H ds ∧ H.Pairwise (befH den (sizeC cs) (comC cs q)) ∧
    (∀ c, c ∈ H ↔ c < cs.length ∧ 0 < comC cs q c ∧ knownB cs vs r cols c = true) ∧ InN w' (fun k => w.heap.size ≤ k ∧ k < T) (.slice sa r sc) (sortN sl) ∧ Below w.heap.size w w'
set_option maxRecDepth 100000 in
set_option maxHeartbeats 8000000 in
theorem src_hits {w0 w : World} {cs : List Cv} {q : List ByteArray} {ev vv lv qv fv : Value} {sb lb xc cap r : Nat} {xa : Option Addr} {pl : List Nat} {den : Nat → Nat → Nat} (hin : SrcIn w0 cs q ev vv lv qv) (h : SrcSt w0 w cs q ev vv lv qv fv sb lb xa xc cap pl r) (hs : ScoOk w0 fv q.length den)
  {cols : List Nat} {cv : Value} (hco : InN w (· < w.heap.size) cv cols) (hup : cols.Pairwise (· ≤ ·)) (hn : cols.length ≤ 1048576) (ho : Fr.OneAt w) :
  Calls Tryz.prog 105 #[.pointer (some ⟨sb, 0, none⟩), cv] w (HitsP w den cs q (vsOf cs pl) r cols (pl.take r) cv) := by
 have hpn := h.len
 have hql := hin.ql
 have hE := hin.ok.many
 have hle := h.le
 obtain ⟨hmx, hmm, -⟩ := num_at h.lst rfl
 unfold maxLen at hmm
 have HBEST := hid (fun W c (hW : Below w.heap.size w W) (hc : c < cs.length) => st_best hin (h.later hW) hc)
 have HHIT := hid (fun W c n (hW : Below w.heap.size w W) (hc : c < cs.length) (h1 : n ≤ q.length) (h2 : n ≤ sizeC cs c) => st_hit hin (h.later hW) hs hc h1 h2)
 have HCOM := hid (fun W c (hW : Below w.heap.size w W) (hc : c < cs.length) => st_common hin (h.below.trans (hW.mono h.below.size)) hc)
 have HBIN := hid (fun W c (hW : Below w.heap.size w W) => lib_BinN cv cols c w.heap.size W (InK.keep hco fun p hp => hW.cell (p := p) hp) hup hn)
 have HSRT := hid (fun W bk (hW : Below w.heap.size w W) (hx : BoxN W bk 34 #[.slice xa r xc]) => st_sorted (h.later hW).lst (fun k hk => hk.1.2) rfl hle (by omega) hx)
 have HBX := hid (fun W (hW : Below w.heap.size w W) => (h.later hW).box)
 have HLW := hid (fun W c (hW : Below w.heap.size w W) (hc : c < cs.length) => (by
  have h1 := (h.later hW).low.at hc
  rwa [lowsL_at hc] at h1 : W.cell? ⟨lb, c, none⟩ = some (.int .i64 ((lowC cs (vsOf cs pl) r c : Nat) : Int))))
 have HONE := hid (fun W (hW : Below w.heap.size w W) => ho.below hW)
 have hnd : q.Nodup := asc_nodupB hin.asc
 have hv := h.ok
 have HLO := hid (fun c => (⟨Nat.le_trans (low_le_com hv r c) (com_le_q c), Nat.le_trans (low_le_com hv r c) (com_le_size hnd c), com_le_q c, com_le_size hnd c, fun e => com_known hv hnd e⟩ : lowC cs (vsOf cs pl) r c ≤ q.length ∧ lowC cs (vsOf cs pl) r c ≤ sizeC cs c ∧ comC cs q c ≤ q.length ∧ comC cs q c ≤ sizeC cs c ∧ (bestC cs (vsOf cs pl) r c = lowC cs (vsOf cs pl) r c → lowC cs (vsOf cs pl) r c = comC cs q c)))
 have HOK := hid hin.ok
 have HSM := hid (fun c n (h0 : 0 < n) (h1 : n ≤ q.length) (h2 : n ≤ sizeC cs c) => sml_ofB (c := n) (d := den n (sizeC cs c)) (hs.sco.pos n _ h0 h1 h2) (by omega) (hs.small n _ h0 h1 h2 (size_le hin.ok c)))
 obtain ⟨ea, ec, rfl, -⟩ := id hin.rd.ents
 obtain ⟨va, vc, rfl, -⟩ := id hin.rd.vals
 obtain ⟨lf, ⟨la, lc, rfl, -⟩, -⟩ := id hin.rd.lists
 obtain ⟨qa, qc, rfl, -⟩ := id hin.qrd
 obtain ⟨ca, cc, rfl, -⟩ := id hco
 clear hin h hs hco hup ho hv hnd
 have hri : (r : Int) ≤ (xc : Int) := by omega
 have hr0 : (0 : Int) ≤ (r : Int) := by omega
 have HX0 := hid (BoxN.new w #[.slice none 0 0, .slice none 0 0] 36)
 have HBW0 := hid ((Below.refl w.heap.size w).alloc (Nat.le_refl _) (.cells #[.slice none 0 0, .slice none 0 0] 36))
 go_enter Tryz.func105, Tryz.ntmps105
 generalize hLA : Code.loop _ = LA
 go_upto_region 1 with fail
 obtain ⟨W0, hW0⟩ : ∃ V, V = w.alloc (.cells #[.slice none 0 0, .slice none 0 0] 36) := ⟨_, rfl⟩
 have hz0 : w.heap.size ≤ W0.heap.size := by rw [hW0, World.size_alloc]; omega
 rw [← hW0] at HX0 HBW0 ⊢
 clear hW0
 have HG := hid (fun W (hW : Below W0.heap.size W0 W) => (by
  have h1 := HBX.out W (HBW0.out.trans (hW.mono hz0))
  exact ⟨BoxN.cell h1 4 rfl, BoxN.cell h1 5 rfl⟩ : W.cell? ⟨sb, 4, none⟩ = some (.slice xa pl.length xc) ∧ W.cell? ⟨sb, 5, none⟩ = some (.int .i64 (r : Int))))
 go_cut [6] from 16 to 28 (fun s6 wx => ∃ (rq : Nat) (sa : Option Addr) (sc : Nat), s6 = .pointer (some ⟨rq, 0, none⟩) ∧ W0.heap.size ≤ rq ∧ Hid (Below W0.heap.size W0 wx) ∧ Hid (BoxN wx rq 36 #[.slice sa r sc, .slice ca cols.length cc]) ∧ Hid (InN wx (fun k => W0.heap.size ≤ k ∧ k < wx.heap.size) (.slice sa r sc) (sortN (pl.take r))))
 case first =>
  have HD := hid (show Below W0.heap.size W0 W0.drew from (Below.refl W0.heap.size W0).drew)
  refine wp_region_held_drew (S := fun W => W.cell? ⟨sb, 4, none⟩ = some (.slice xa pl.length xc) ∧ W.cell? ⟨sb, 5, none⟩ = some (.int .i64 (r : Int))) (by kernel_rfl) (HG.out _ HD.out) (fun hHeld => ?_)
  generalize W0.drew = Wd at *
  refine tkbd (i := 0) (v := ?_) (y := (Or.inl ⟨by rfl, ?_⟩)) (z := ?_)
  rotate_left
  ·(intro w' hSw; (try dsimp only at hSw); go_simp) <;> with_reducible rfl
  try simp only [Act.put, List.setIfInBounds_toArray, List.set]
  refine tkbd (i := 1) (v := ?_) (y := (Or.inl ⟨by rfl, ?_⟩)) (z := ?_)
  rotate_left
  ·(intro w' hSw; (try dsimp only at hSw); go_simp) <;> with_reducible rfl
  try simp only [Act.put, List.setIfInBounds_toArray, List.set]
  refine tkbd (i := 2) (v := ?_) (y := (Or.inl ⟨by rfl, ?_⟩)) (z := ?_)
  rotate_left
  ·(intro w' hSw; (try dsimp only at hSw); go_simp) <;> with_reducible rfl
  try simp only [Act.put, List.setIfInBounds_toArray, List.set]
  refine tkbd (i := 3) (v := ?_) (y := (Or.inl ⟨by rfl, ?_⟩)) (z := ?_)
  rotate_left
  ·(intro w' hSw; (try dsimp only at hSw); go_simp) <;> with_reducible rfl
  try simp only [Act.put, List.setIfInBounds_toArray, List.set]
  refine tkbd (i := 4) (v := ?_) (y := (Or.inl ⟨by rfl, ?_⟩)) (z := ?_)
  rotate_left
  ·(intro w' hSw; (try dsimp only at hSw); go_simp) <;> with_reducible rfl
  try simp only [Act.put, List.setIfInBounds_toArray, List.set]
  refine tkbd (i := 5) (v := ?_) (y := (Or.inl ⟨by rfl, ?_⟩)) (z := ?_)
  rotate_left
  ·(intro w' hSw; (try dsimp only at hSw); go_simp) <;> with_reducible rfl
  try simp only [Act.put, List.setIfInBounds_toArray, List.set]
  refine tkbd (i := 6) (v := ?_) (y := (Or.inl ⟨by rfl, ?_⟩)) (z := ?_)
  rotate_left
  ·(intro w' hSw; (try dsimp only at hSw); go_simp) <;> with_reducible rfl
  try simp only [Act.put, List.setIfInBounds_toArray, List.set]
  refine tkbd (i := 7) (v := ?_) (y := (Or.inl ⟨by rfl, ?_⟩)) (z := ?_)
  rotate_left
  ·(intro w' hSw; (try dsimp only at hSw); go_simp) <;> with_reducible rfl
  try simp only [Act.put, List.setIfInBounds_toArray, List.set]
  refine tkbd (i := 8) (v := ?_) (y := (Or.inl ⟨by rfl, ?_⟩)) (z := ?_)
  rotate_left
  ·(intro w' hSw; (try dsimp only at hSw); go_simp) <;> with_reducible rfl
  try simp only [Act.put, List.setIfInBounds_toArray, List.set]
  refine tkbd (i := 11) (v := ?_) (y := (Or.inl ⟨by rfl, ?_⟩)) (z := ?_)
  rotate_left
  ·(intro w' hSw; (try dsimp only at hSw); go_simp) <;> with_reducible rfl
  try simp only [Act.put, List.setIfInBounds_toArray, List.set]
  refine wpAnyH_ready (rs := [9, 13]) (by kernel_rfl) (by simp) ?_
  refine csbd (x := fun K hK => ?_) (y := ?_)
  ·go_simp
   go_at_call 156
   go_must ((with_reducible refine (lib_ValuesN xa r xc Wd).mono ?_); rintro e wc0 ⟨rfl, hwv⟩; have hbc : Below Wd.heap.size Wd wc0 := (by rw [hwv]; exact (Below.refl _ _).alloc (Nat.le_refl _) _); have HBc0 := hid (HD.out.trans (hbc.mono HD.out.size)); have HV := hid (by rw [hwv]; exact BoxN.new Wd #[.slice xa r xc] 34 : BoxN wc0 Wd.heap.size 34 #[.slice xa r xc]); clear hwv; have HKHV0 := hid (Below.refl wc0.heap.size wc0); clear hbc)
   (try go_wp2_with fail)
   refine hK.out _ _ (HG.out _ HBc0.out) (fun hHeld => ?_)
   clear hK K
   try simp only [Act.put, List.setIfInBounds_toArray, List.set]
   refine wpAnyH_ready (rs := [10, 13]) (by kernel_rfl) (by simp) ?_
   refine csbd (x := fun K hK => ?_) (y := ?_)
   ·go_simp
    go_at_call 155
    go_must ((with_reducible refine (HSRT.out wc0 _ (HBW0.out.trans (HBc0.out.mono hz0)) (HV.out.below HKHV0.out HV.out.lt)).mono ?_); rintro e wc1 ⟨sa, sc, rfl, hri, hbc⟩; have HBc1 := hid (HBc0.out.trans (hbc.mono HBc0.out.size)); have HKHV1 := hid (HKHV0.out.trans (hbc.mono HKHV0.out.size)); have hbz := HBc0.out.size; have HR := hid (⟨hri, Nat.le_refl _⟩ : InT wc1 wc0.heap.size wc1.heap.size (.slice sa r sc) (sortN (pl.take r))); clear hri; have HKHR1 := hid (Below.refl wc1.heap.size wc1); clear hbc)
    (try go_wp2_with fail)
    refine hK.out _ _ (HG.out _ HBc1.out) (fun hHeld => ?_)
    clear hK K
    try simp only [Act.put, List.setIfInBounds_toArray, List.set]
    refine tkbd (i := 12) (v := ?_) (y := (Or.inl ⟨by rfl, ?_⟩)) (z := ?_)
    rotate_left
    ·(intro w' hSw; (try dsimp only at hSw); go_simp) <;> with_reducible rfl
    try simp only [Act.put, List.setIfInBounds_toArray, List.set]
    refine wpAnyH_ready (rs := [13]) (by kernel_rfl) (by simp) ?_
    refine csbd (x := fun K hK => ?_) (y := ?_)
    ·go_simp
     have HBa2 := hid (HBc1.out.alloc HBc1.out.size (.cells #[.slice none 0 0, .slice none 0 0] 36))
     have HXa2 := hid (BoxN.new wc1 #[.slice none 0 0, .slice none 0 0] 36)
     have hloHV : wc0.heap.size ≤ wc1.heap.size := HKHV1.out.size
     have HKHV2 := hid (HKHV1.out.alloc HKHV1.out.size (.cells #[.slice none 0 0, .slice none 0 0] 36))
     have hloHR : wc1.heap.size ≤ wc1.heap.size := HKHR1.out.size
     have HKHR2 := hid (HKHR1.out.alloc HKHR1.out.size (.cells #[.slice none 0 0, .slice none 0 0] 36))
     refine hK.out _ _ (HG.out _ HBa2.out) (fun hHeld => ?_)
     clear hK K
     try simp only [Act.put, List.setIfInBounds_toArray, List.set]
     obtain ⟨Wa2, hWa2⟩ : ∃ V, V = World.alloc wc1 (.cells #[.slice none 0 0, .slice none 0 0] 36) := ⟨_, rfl⟩
     rw [← hWa2] at HBa2 HXa2 HKHV2 HKHR2 hHeld ⊢
     clear hWa2
     refine wpAnyH_ready (rs := [14]) (by kernel_rfl) (by simp) ?_
     refine csbd (x := fun K hK => ?_) (y := AllReadyH.nil)
     have e0 := HXa2.out.cell 0 rfl
     have f0 := HXa2.out.frozen 0
     have e1 := HXa2.out.cell 1 rfl
     have f1 := HXa2.out.frozen 1
     have hlo : W0.heap.size ≤ wc1.heap.size := HBc1.out.size
     go_simp
     have g0 : BoxN _ wc1.heap.size 36 #[.slice sa r sc, .slice none 0 0] := HXa2.out.set 0 (.slice sa r sc)
     have h0 := HBa2.out.setCell (p := ⟨wc1.heap.size, 0, none⟩) hlo (.slice sa r sc)
     have g1 : BoxN _ wc1.heap.size 36 #[.slice sa r sc, .slice ca cols.length cc] := g0.set 1 (.slice ca cols.length cc)
     have h1 := h0.setCell (p := ⟨wc1.heap.size, 1, none⟩) hlo (.slice ca cols.length cc)
     have HGX := hid g1
     have HHX := hid h1
     have HZHR := hid (InT.later (HR.out) ((HKHR2.out.setCell (p := ⟨wc1.heap.size, 0, none⟩) hloHR (.slice sa r sc)).setCell (p := ⟨wc1.heap.size, 1, none⟩) hloHR (.slice ca cols.length cc)) (Nat.le_refl _))
     clear g0 h0 e0 f0 g1 h1 e1 f1
     refine hK.out _ _ (HG.out _ HHX.out) (fun hHeld => ?_)
     clear hK K
     try simp only [Act.put, List.setIfInBounds_toArray, List.set]
     refine wpAnyH_done (by kernel_rfl) ?_ _
     go_wp2_with fail
     go_meet
     exact ⟨_, _, _, rfl, hlo, HHX, HGX, hid (InK.more HZHR.out.1 fun k hk => ⟨Nat.le_trans hbz hk.1, Nat.lt_of_lt_of_le hk.2 HZHR.out.2⟩)⟩
    exact AllReadyH.nil
   refine csbd (x := fun K hK => ?_) (y := ?_)
   ·go_simp
    have HBa1 := hid (HBc0.out.alloc HBc0.out.size (.cells #[.slice none 0 0, .slice none 0 0] 36))
    have HXa1 := hid (BoxN.new wc0 #[.slice none 0 0, .slice none 0 0] 36)
    have hloHV : wc0.heap.size ≤ wc0.heap.size := HKHV0.out.size
    have HKHV1 := hid (HKHV0.out.alloc HKHV0.out.size (.cells #[.slice none 0 0, .slice none 0 0] 36))
    refine hK.out _ _ (HG.out _ HBa1.out) (fun hHeld => ?_)
    clear hK K
    try simp only [Act.put, List.setIfInBounds_toArray, List.set]
    obtain ⟨Wa1, hWa1⟩ : ∃ V, V = World.alloc wc0 (.cells #[.slice none 0 0, .slice none 0 0] 36) := ⟨_, rfl⟩
    rw [← hWa1] at HBa1 HXa1 HKHV1 hHeld ⊢
    clear hWa1
    refine wpAnyH_ready (rs := [10]) (by kernel_rfl) (by simp) ?_
    refine csbd (x := fun K hK => ?_) (y := ?_)
    ·go_simp
     go_at_call 155
     go_must ((with_reducible refine (HSRT.out Wa1 _ (HBW0.out.trans (HBa1.out.mono hz0)) (HV.out.below HKHV1.out HV.out.lt)).mono ?_); rintro e wc2 ⟨sa, sc, rfl, hri, hbc⟩; have HBc2 := hid (HBa1.out.trans (hbc.mono HBa1.out.size)); have HXc2 := hid (HXa1.out.below hbc HXa1.out.lt); have HKHV2 := hid (HKHV1.out.trans (hbc.mono HKHV1.out.size)); have hbz := HBa1.out.size; have HR := hid (⟨hri, Nat.le_refl _⟩ : InT wc2 Wa1.heap.size wc2.heap.size (.slice sa r sc) (sortN (pl.take r))); clear hri; have HKHR2 := hid (Below.refl wc2.heap.size wc2); have hrbHR : wc0.heap.size < Wa1.heap.size := HXa1.out.lt; clear hbc)
     (try go_wp2_with fail)
     refine hK.out _ _ (HG.out _ HBc2.out) (fun hHeld => ?_)
     clear hK K
     try simp only [Act.put, List.setIfInBounds_toArray, List.set]
     refine tkbd (i := 12) (v := ?_) (y := (Or.inl ⟨by rfl, ?_⟩)) (z := ?_)
     rotate_left
     ·(intro w' hSw; (try dsimp only at hSw); go_simp) <;> with_reducible rfl
     try simp only [Act.put, List.setIfInBounds_toArray, List.set]
     refine wpAnyH_ready (rs := [14]) (by kernel_rfl) (by simp) ?_
     refine csbd (x := fun K hK => ?_) (y := AllReadyH.nil)
     have e0 := HXc2.out.cell 0 rfl
     have f0 := HXc2.out.frozen 0
     have e1 := HXc2.out.cell 1 rfl
     have f1 := HXc2.out.frozen 1
     have hlo : W0.heap.size ≤ wc0.heap.size := HBc0.out.size
     go_simp
     have g0 : BoxN _ wc0.heap.size 36 #[.slice sa r sc, .slice none 0 0] := HXc2.out.set 0 (.slice sa r sc)
     have h0 := HBc2.out.setCell (p := ⟨wc0.heap.size, 0, none⟩) hlo (.slice sa r sc)
     have g1 : BoxN _ wc0.heap.size 36 #[.slice sa r sc, .slice ca cols.length cc] := g0.set 1 (.slice ca cols.length cc)
     have h1 := h0.setCell (p := ⟨wc0.heap.size, 1, none⟩) hlo (.slice ca cols.length cc)
     have HGX := hid g1
     have HHX := hid h1
     have HZHR := hid ((InT.set ((InT.set ((InT.later (HR.out) HKHR2.out (Nat.le_refl _))) (p := ⟨wc0.heap.size, 0, none⟩) hrbHR (.slice sa r sc))) (p := ⟨wc0.heap.size, 1, none⟩) hrbHR (.slice ca cols.length cc)))
     clear g0 h0 e0 f0 g1 h1 e1 f1
     refine hK.out _ _ (HG.out _ HHX.out) (fun hHeld => ?_)
     clear hK K
     try simp only [Act.put, List.setIfInBounds_toArray, List.set]
     refine wpAnyH_done (by kernel_rfl) ?_ _
     go_wp2_with fail
     go_meet
     exact ⟨_, _, _, rfl, hlo, HHX, HGX, hid (InK.more HZHR.out.1 fun k hk => ⟨Nat.le_trans hbz hk.1, Nat.lt_of_lt_of_le hk.2 HZHR.out.2⟩)⟩
    exact AllReadyH.nil
   exact AllReadyH.nil
  refine csbd (x := fun K hK => ?_) (y := ?_)
  ·go_simp
   have HBa0 := hid (HD.out.alloc HD.out.size (.cells #[.slice none 0 0, .slice none 0 0] 36))
   have HXa0 := hid (BoxN.new Wd #[.slice none 0 0, .slice none 0 0] 36)
   refine hK.out _ _ (HG.out _ HBa0.out) (fun hHeld => ?_)
   clear hK K
   try simp only [Act.put, List.setIfInBounds_toArray, List.set]
   obtain ⟨Wa0, hWa0⟩ : ∃ V, V = World.alloc Wd (.cells #[.slice none 0 0, .slice none 0 0] 36) := ⟨_, rfl⟩
   rw [← hWa0] at HBa0 HXa0  hHeld ⊢
   clear hWa0
   refine wpAnyH_ready (rs := [9]) (by kernel_rfl) (by simp) ?_
   refine csbd (x := fun K hK => ?_) (y := ?_)
   ·go_simp
    go_at_call 156
    go_must ((with_reducible refine (lib_ValuesN xa r xc Wa0).mono ?_); rintro e wc1 ⟨rfl, hwv⟩; have hbc : Below Wa0.heap.size Wa0 wc1 := (by rw [hwv]; exact (Below.refl _ _).alloc (Nat.le_refl _) _); have HBc1 := hid (HBa0.out.trans (hbc.mono HBa0.out.size)); have HXc1 := hid (HXa0.out.below hbc HXa0.out.lt); have HV := hid (by rw [hwv]; exact BoxN.new Wa0 #[.slice xa r xc] 34 : BoxN wc1 Wa0.heap.size 34 #[.slice xa r xc]); clear hwv; have HKHV1 := hid (Below.refl wc1.heap.size wc1); have hrbHV : Wd.heap.size < Wa0.heap.size := HXa0.out.lt; clear hbc)
    (try go_wp2_with fail)
    refine hK.out _ _ (HG.out _ HBc1.out) (fun hHeld => ?_)
    clear hK K
    try simp only [Act.put, List.setIfInBounds_toArray, List.set]
    refine wpAnyH_ready (rs := [10]) (by kernel_rfl) (by simp) ?_
    refine csbd (x := fun K hK => ?_) (y := ?_)
    ·go_simp
     go_at_call 155
     go_must ((with_reducible refine (HSRT.out wc1 _ (HBW0.out.trans (HBc1.out.mono hz0)) (HV.out.below HKHV1.out HV.out.lt)).mono ?_); rintro e wc2 ⟨sa, sc, rfl, hri, hbc⟩; have HBc2 := hid (HBc1.out.trans (hbc.mono HBc1.out.size)); have HXc2 := hid (HXc1.out.below hbc HXc1.out.lt); have HKHV2 := hid (HKHV1.out.trans (hbc.mono HKHV1.out.size)); have hbz := HBc1.out.size; have HR := hid (⟨hri, Nat.le_refl _⟩ : InT wc2 wc1.heap.size wc2.heap.size (.slice sa r sc) (sortN (pl.take r))); clear hri; have HKHR2 := hid (Below.refl wc2.heap.size wc2); have hrbHR : Wd.heap.size < wc1.heap.size := HXc1.out.lt; clear hbc)
     (try go_wp2_with fail)
     refine hK.out _ _ (HG.out _ HBc2.out) (fun hHeld => ?_)
     clear hK K
     try simp only [Act.put, List.setIfInBounds_toArray, List.set]
     refine tkbd (i := 12) (v := ?_) (y := (Or.inl ⟨by rfl, ?_⟩)) (z := ?_)
     rotate_left
     ·(intro w' hSw; (try dsimp only at hSw); go_simp) <;> with_reducible rfl
     try simp only [Act.put, List.setIfInBounds_toArray, List.set]
     refine wpAnyH_ready (rs := [14]) (by kernel_rfl) (by simp) ?_
     refine csbd (x := fun K hK => ?_) (y := AllReadyH.nil)
     have e0 := HXc2.out.cell 0 rfl
     have f0 := HXc2.out.frozen 0
     have e1 := HXc2.out.cell 1 rfl
     have f1 := HXc2.out.frozen 1
     have hlo : W0.heap.size ≤ Wd.heap.size := HD.out.size
     go_simp
     have g0 : BoxN _ Wd.heap.size 36 #[.slice sa r sc, .slice none 0 0] := HXc2.out.set 0 (.slice sa r sc)
     have h0 := HBc2.out.setCell (p := ⟨Wd.heap.size, 0, none⟩) hlo (.slice sa r sc)
     have g1 : BoxN _ Wd.heap.size 36 #[.slice sa r sc, .slice ca cols.length cc] := g0.set 1 (.slice ca cols.length cc)
     have h1 := h0.setCell (p := ⟨Wd.heap.size, 1, none⟩) hlo (.slice ca cols.length cc)
     have HGX := hid g1
     have HHX := hid h1
     have HZHR := hid ((InT.set ((InT.set ((InT.later (HR.out) HKHR2.out (Nat.le_refl _))) (p := ⟨Wd.heap.size, 0, none⟩) hrbHR (.slice sa r sc))) (p := ⟨Wd.heap.size, 1, none⟩) hrbHR (.slice ca cols.length cc)))
     clear g0 h0 e0 f0 g1 h1 e1 f1
     refine hK.out _ _ (HG.out _ HHX.out) (fun hHeld => ?_)
     clear hK K
     try simp only [Act.put, List.setIfInBounds_toArray, List.set]
     refine wpAnyH_done (by kernel_rfl) ?_ _
     go_wp2_with fail
     go_meet
     exact ⟨_, _, _, rfl, hlo, HHX, HGX, hid (InK.more HZHR.out.1 fun k hk => ⟨Nat.le_trans hbz hk.1, Nat.lt_of_lt_of_le hk.2 HZHR.out.2⟩)⟩
    exact AllReadyH.nil
   exact AllReadyH.nil
  exact AllReadyH.nil
 case rest =>
  obtain ⟨rq, sa, sc, rfl, hrq, HB1, HC1, HI1⟩ := hcut
  obtain ⟨w1, rfl⟩ : ∃ W, W = wc := ⟨_, rfl⟩
  have HBW1 := hid (HBW0.out.trans (HB1.out.mono hz0))
  have hz1 : w.heap.size ≤ w1.heap.size := HBW1.out.size
  have x6 := BoxN.cell (HBX.out w1 HBW1.out) 6 rfl
  clear HG
  subst hLA
  go_wp2_with fail
  go_loopg [34, 7, 8, 9, 10, 11, 12, 13, 14, 15] cs.length (fun K i o u8 u9 u10 u11 u12 u13 u14 u15 wr => ∃ (p : Nat) (ds : List Mq) (oa : Option Addr) (oc : Nat), i = .int .i64 (p : Int) ∧ p + K = cs.length ∧ o = .slice oa ds.length oc ∧ Hid (Below w1.heap.size w1 wr) ∧ Hid (HtsOf w1.heap.size wr (.slice oa ds.length oc) den cs (comC cs q) (hitsUp cs q (vsOf cs pl) r cols p) ds))
  case atStart => exact ⟨0, [], none, 0, rfl, by omega, rfl, hid (Below.refl _ _), hid (HtsOf.nil0 _ _ _ _ _)⟩
  case round =>
   obtain ⟨p, ds, oa, oc, rfl, hp0, rfl, HBR, HST⟩ := hrel
   have HBW := hid (HBW1.out.trans (HBR.out.mono hz1))
   clear x6
   by_cases hp : 0 < gk
   ·have hpl : p < cs.length := by omega
    have hpi : (p : Int) < (cs.length : Int) := by omega
    have l0 := HLW.out wr p HBW.out hpl
    have HBE := hid (HBEST.out wr p HBW.out hpl)
    have HL := hid (HLO.out p)
    have HKN : Hid (knownB cs (vsOf cs pl) r cols p = (decide (p ∈ cols) || decide (bestC cs (vsOf cs pl) r p = lowC cs (vsOf cs pl) r p))) := hid rfl
    have HUY := hid (fun h => @hitsUp_yes cs q (vsOf cs pl) r cols p h)
    have HUN := hid (fun h => @hitsUp_no cs q (vsOf cs pl) r cols p h)
    have HHL := hid (hitsUp_len cs q (vsOf cs pl) r cols p)
    have hsz : sizeC cs p ≤ 1048576 := by have := size_le HOK.out p; omega
    generalize bestC cs (vsOf cs pl) r p = bs at *
    generalize lowC cs (vsOf cs pl) r p = lo at *
    have hlq : lo ≤ q.length := HL.out.1
    have hlz : lo ≤ sizeC cs p := HL.out.2.1
    obtain ⟨kb, hkb⟩ : ∃ kb, kb = decide (bs = lo) := ⟨_, rfl⟩
    have HKB := hid hkb
    have e1 : ((bs : Int) == (lo : Int)) = kb := by
     rw [hkb, Bool.eq_iff_iff, beq_iff_eq, decide_eq_true_iff]
     omega
    clear hkb
    go_wp2_with fail
    with_reducible refine HBE.out.mono ?_
    rintro e w2 ⟨rfl, hb2⟩
    have HB2 := hid hb2
    clear hb2
    go_wp2_with fail
    with_reducible refine (HBIN.out w2 p (HBW.out.trans (HB2.out.mono HBW.out.size))).mono ?_
    rintro e w3 ⟨⟨z3, rfl⟩, hb3⟩
    have HB3 := hid (HB2.out.trans (hb3.mono HB2.out.size))
    clear hb3
    have HBW3 := hid (HBW.out.trans (HB3.out.mono HBW.out.size))
    obtain ⟨fb, hfb⟩ : ∃ fb, fb = decide (p ∈ cols) := ⟨_, rfl⟩
    rw [← hfb] at HKN ⊢
    clear hfb
    go_upto_if 51 with fail
    go_cut [10, 11] from 35 to 77 (fun s10 s11 wx => ∃ (n : Nat) (kn : Bool), s10 = .int .i64 (n : Int) ∧ s11 = .bool kn ∧ n ≤ q.length ∧ n ≤ sizeC cs p ∧ Hid (Below w3.heap.size w3 wx) ∧ Hid (kn = knownB cs (vsOf cs pl) r cols p ∧ (kn = true → n = comC cs q p)))
    case first =>
     cases fb
     ·go_wp2_with fail
      go_meet
      exact ⟨lo, kb, rfl, rfl, hlq, hlz, hid (Below.refl _ _), hid ⟨by rw [HKN.out, HKB.out]; rfl, fun e => HL.out.2.2.2.2 (of_decide_eq_true (HKB.out.symm.trans e))⟩⟩
     ·have HGI := hid (fun W (hW : Below w3.heap.size w3 W) => (by
       have h1 := HBX.out W (HBW3.out.trans (hW.mono HBW3.out.size))
       exact ⟨BoxN.cell h1 0 rfl, BoxN.cell h1 1 rfl, BoxN.cell h1 2 rfl, BoxN.cell h1 3 rfl⟩ : W.cell? ⟨sb, 0, none⟩ = some (.slice ea (indexOf cs).ents.length ec) ∧ W.cell? ⟨sb, 1, none⟩ = some (.slice va (indexOf cs).vals.length vc) ∧ W.cell? ⟨sb, 2, none⟩ = some (.slice la (indexOf cs).lists.length lc) ∧ W.cell? ⟨sb, 3, none⟩ = some (.slice qa q.length qc)))
      have HCO := hid (fun W (hW : Below w3.heap.size w3 W) => HCOM.out W p (HBW3.out.trans (hW.mono HBW3.out.size)) hpl)
      have HD3 := hid ((Below.refl w3.heap.size w3).drew)
      go_upto_region 9 with fail
      go_region_held3 (fun W => W.cell? ⟨sb, 0, none⟩ = some (.slice ea (indexOf cs).ents.length ec) ∧ W.cell? ⟨sb, 1, none⟩ = some (.slice va (indexOf cs).vals.length vc) ∧ W.cell? ⟨sb, 2, none⟩ = some (.slice la (indexOf cs).lists.length lc) ∧ W.cell? ⟨sb, 3, none⟩ = some (.slice qa q.length qc))
       (first | exact HGI.out _ HD3.out | exact HGI.out _ HC3.out | go_keep)
       ((go_at_call 66; go_must ((with_reducible refine (HCO.out _ HD3.out).mono ?_); rintro e w4 ⟨rfl, hb4⟩; have HC3 := hid (HD3.out.trans (hb4.mono HD3.out.size)); clear hb4)))
      all_goals
       go_wp2_with fail
       go_meet
       exact ⟨comC cs q p, true, rfl, rfl, HL.out.2.2.1, HL.out.2.2.2.1, HC3, hid ⟨by rw [HKN.out]; rfl, fun _ => rfl⟩⟩
    case rest =>
     obtain ⟨n, kn, rfl, rfl, hnq, hnz, HB4, HN⟩ := hcut
     obtain ⟨w4, rfl⟩ : ∃ W, W = wc := ⟨_, rfl⟩
     have HBW4 := hid (HBW3.out.trans (HB4.out.mono HBW3.out.size))
     have HHC := hid (HHIT.out w4 p n HBW4.out hpl hnq hnz)
     have HSN := hid (fun h0 : 0 < n => HSM.out p n h0 hnq hnz)
     have HIT := hid (fun (nu de : Option Addr × Nat) (h0 : 0 < n) (hc : n = comC cs q p) => (⟨hpl, by rw [← hc]; exact h0, rfl, rfl, by rw [← hc], by rw [← hc]⟩ : IsHit den cs (comC cs q) p ⟨(cs.getD p Cv.z).1.1, ((cs.getD p Cv.z).1.2 : Int), nu, de, n / Nat.gcd n (den n (sizeC cs p)), den n (sizeC cs p) / Nat.gcd n (den n (sizeC cs p))⟩))
     generalize den n (sizeC cs p) = dn at *
     generalize (cs.getD p Cv.z).1.1 = ta at *
     generalize (cs.getD p Cv.z).1.2 = can at *
     go_wp2_with fail
     with_reducible refine HHC.out.mono ?_
     rintro e w5 ⟨s1, s2, a5, b5, c5, k5, l5, m5, rfl, hb5, hpf⟩
     have HBa := hid (HB3.out.trans (HB4.out.mono HB3.out.size))
     have HBb := hid (HBa.out.trans (hb5.mono HBa.out.size))
     have HSTb := hid (HST.out.later HBb.out)
     have HB1b := hid (HBR.out.trans (HBb.out.mono HBR.out.size))
     by_cases hn0 : 0 < n
     ·obtain ⟨rfl, rfl, rfl, rfl, hN⟩ := hpf hn0
      have ed : decide (0 < n) = true := decide_eq_true hn0
      rw [ed]
      clear hpf ed
      cases kn
      ·clear hN hb5
       go_wp2_with fail
       go_roundg (gk - 1)
       case rel => exact ⟨p + 1, ds, oa, oc, by go_num, by omega, rfl, hid (HB1b.out.alloc HB1b.out.size _), hid (by rw [HUN.out (by rw [← HN.out.1, Bool.and_false])]; exact HSTb.out.later ((Below.refl _ _).alloc (Nat.le_refl _) _))⟩
       case measure => omega
      ·have hnc := HN.out.2 rfl
       have HY := hid (HUY.out (by rw [← HN.out.1, ← hnc, decide_eq_true hn0]; rfl))
       have HIT1 := hid (HIT.out (a5, c5) (b5, k5) hn0 hnc)
       have HSN1 := hid (HSN.out hn0)
       have hwl : w1.heap.size ≤ w4.heap.size := (HBR.out.trans (HBa.out.mono HBR.out.size)).size
       have HRW := hid (fun k (hk : (Value.slice oa ds.length oc).ownBlock = some k) => Nat.lt_of_lt_of_le (HST.out.row.row.lt k hk).2 HBa.out.size)
       have hw5 : w1.heap.size ≤ w5.heap.size := HB1b.out.size
       have hdl : ds.length ≤ 65536 := by have h1 := HSTb.out.len; have h2 := HHL.out; omega
       generalize n / Nat.gcd n dn = P at *
       generalize dn / Nat.gcd n dn = Q at *
       have HSTy := hid ((HSTb.out.later ((Below.refl w5.heap.size w5).alloc (Nat.le_refl _) (.cells #[.int .i64 ta, .int .i64 (can : Int), .bool false, .slice a5 (Fr.dig P).length c5, .bool false, .slice b5 (Fr.dig Q).length k5] 53))).later ((Below.refl _ _).alloc (Nat.le_refl _) (.cells #[.int .i64 ta, .int .i64 (can : Int), .bool false, .slice a5 (Fr.dig P).length c5, .bool false, .slice b5 (Fr.dig Q).length k5] 53)))
       have HNy := hid ((hN.kept ((Below.refl w5.heap.size w5).alloc (Nat.le_refl _) (.cells #[.int .i64 ta, .int .i64 (can : Int), .bool false, .slice a5 (Fr.dig P).length c5, .bool false, .slice b5 (Fr.dig Q).length k5] 53))).kept ((Below.refl _ _).alloc (Nat.le_refl _) (.cells #[.int .i64 ta, .int .i64 (can : Int), .bool false, .slice a5 (Fr.dig P).length c5, .bool false, .slice b5 (Fr.dig Q).length k5] 53)))
       have HB1y := hid ((HB1b.out.alloc hw5 (.cells #[.int .i64 ta, .int .i64 (can : Int), .bool false, .slice a5 (Fr.dig P).length c5, .bool false, .slice b5 (Fr.dig Q).length k5] 53)).alloc (by rw [World.size_alloc]; omega) (.cells #[.int .i64 ta, .int .i64 (can : Int), .bool false, .slice a5 (Fr.dig P).length c5, .bool false, .slice b5 (Fr.dig Q).length k5] 53))
       have HX5 := hid (BoxN.new w5 #[.int .i64 ta, .int .i64 (can : Int), .bool false, .slice a5 (Fr.dig P).length c5, .bool false, .slice b5 (Fr.dig Q).length k5] 53)
       have x0 := HX5.out.cell 0 rfl
       have x1 := HX5.out.cell 1 rfl
       have x2 := HX5.out.cell 2 rfl
       have x3 := HX5.out.cell 3 rfl
       have x4 := HX5.out.cell 4 rfl
       have x5 := HX5.out.cell 5 rfl
       have hxy := BoxN.new (w5.alloc (.cells #[.int .i64 ta, .int .i64 (can : Int), .bool false, .slice a5 (Fr.dig P).length c5, .bool false, .slice b5 (Fr.dig Q).length k5] 53)) #[.int .i64 ta, .int .i64 (can : Int), .bool false, .slice a5 (Fr.dig P).length c5, .bool false, .slice b5 (Fr.dig Q).length k5] 53
       rw [World.size_alloc] at hxy
       have HXY := hid hxy
       clear hnc hN hb5 hxy
       go_wp2_with (at_builtin; refine wpList_append_hit rfl (.tmp 73) (.tmp 75) rfl w1.heap.size (.slice oa ds.length oc) ds ds.length rfl rfl HSTy.out.row.row [.int .i64 ta, .int .i64 (can : Int), .bool false, .slice a5 (Fr.dig P).length c5, .bool false, .slice b5 (Fr.dig Q).length k5] rfl (by intro u hu; simp at hu; rcases hu with rfl | rfl | rfl | rfl | rfl | rfl <;> rfl) _ 1 53 rfl HXY.out (by omega) HB1y.out.size ?_; intro g7 cap7 w7 hown7 hg7 hat7; have HADD := hid (HSTy.out.add HOK.out HNy.out hwl HRW.out HSN1.out rfl hown7 hg7 hat7 HIT1.out); have HG7 := hid (below_grownQ HB1y.out hg7 (fun k hk => (HSTy.out.row.row.lt k hk).1)); clear hown7 hg7 hat7)
       obtain ⟨x, hx⟩ := HADD.out
       have hx' : HtsOf w1.heap.size w7 (.slice (some ⟨g7, 0, none⟩) (ds ++ [x]).length cap7) den cs (comC cs q) (hitsUp cs q (vsOf cs pl) r cols (p + 1)) (ds ++ [x]) := by
        rw [HY.out, List.length_append]
        exact hx
       have HXX := hid hx'
       clear hx hx'
       go_roundg (gk - 1)
       case rel => exact ⟨p + 1, ds ++ [x], _, _, by go_num, by omega, by rw [List.length_append]; rfl, HG7, HXX⟩
       case measure => omega
     ·have ed : decide (0 < n) = false := decide_eq_false hn0
      rw [ed]
      clear hpf ed
      clear hb5
      go_wp2_with fail
      go_roundg (gk - 1)
      case rel => exact ⟨p + 1, ds, oa, oc, by go_num, by omega, rfl, hid (HB1b.out.alloc HB1b.out.size _), hid (by rw [HUN.out (by rw [← HN.out.1]; cases kn; { rw [Bool.and_false] }; { rw [← HN.out.2 rfl, decide_eq_false hn0]; rfl })]; exact HSTb.out.later ((Below.refl _ _).alloc (Nat.le_refl _) _))⟩
      case measure => omega
   ·obtain rfl : gk = 0 := by omega
    obtain rfl : p = cs.length := by omega
    have hrw := HBR.out.size
    have HSO := hid (hts_sort HST.out HOK.out (hitsUp_nodup _ _ _ _ _ _) hrw (by have := hitsUp_len cs q (vsOf cs pl) r cols cs.length; omega) (fun x _ => x.2) (fun W hW => HONE.out W (HBW.out.trans (hW.mono hz1))))
    have hlx := HX0.out.lt
    go_wp2_with fail
    with_reducible refine HSO.out.mono ?_
    rintro e w2 ⟨rfl, H', ds', hp', hs', hH', -, hb2⟩
    have HH := hid hH'
    have HB2 := hid (HBR.out.trans hb2)
    have hC2 := HC1.out.below HB2.out HC1.out.lt
    have x0 := hC2.cell 0 rfl
    have x1 := hC2.cell 1 rfl
    have hB02 := HB1.out.trans (HB2.out.mono HB1.out.size)
    have hY2 := HX0.out.below hB02 hlx
    have y0 := hY2.cell 0 rfl
    have y1 := hY2.cell 1 rfl
    have f0 := hY2.frozen 0
    have f1 := hY2.frozen 1
    have HY2 := hid hY2
    have HBW2 := hid (HBW1.out.trans (HB2.out.mono hz1))
    have HPS := hid (⟨hp', hs'⟩ : H'.Perm _ ∧ _)
    clear hp' hs' hH' hb2 hC2 hB02 hY2
    go_upto_region 15 with fail
    have hw01 : w.heap.size < W0.heap.size := HX0.out.lt
    have hw02 : W0.heap.size ≤ w1.heap.size := HB1.out.size
    have HRES : Hid (HitsP w den cs q (vsOf cs pl) r cols (pl.take r) (.slice ca cols.length cc) (.returned (.tuple #[.slice oa ds.length oc, .agg #[.slice sa r sc, .slice ca cols.length cc]])) (((w2.setCell ⟨w.heap.size, 0, none⟩ (.slice sa r sc)).setCell ⟨w.heap.size, 1, none⟩ (.slice ca cols.length cc)).drew)) := hid (by
     refine ⟨_, H', ds', sa, sc, w1.heap.size, rfl, hz1, by have := HB2.out.size; simpa using this, ?_, HPS.out.2, fun c => ?_, ?_, ?_⟩
     ·exact HtsOf.later (((HH.out.set (x := ⟨w.heap.size, 0, none⟩) (by show w.heap.size < _; omega) (.slice sa r sc)).set (x := ⟨w.heap.size, 1, none⟩) (by show w.heap.size < _; omega) (.slice ca cols.length cc))) ((Below.refl _ _).drew)
     ·rw [HPS.out.1.mem_iff, hitsUp_mem]
     ·have hs2 := HB2.out.size
      refine InK.more (InK.keep HI1.out fun x hx => ?_) fun k hk => ⟨Nat.le_trans hz0 hk.1, hk.2⟩
      have h1 := hx.1
      have h2 := hx.2
      show (World.cell? ((w2.setCell ⟨w.heap.size, 0, none⟩ (.slice sa r sc)).setCell ⟨w.heap.size, 1, none⟩ (.slice ca cols.length cc)) x) = _
      rw [World.cell?_of_block (Below.heap_setCell _ _ _ _ (by show x.block ≠ w.heap.size; omega)), World.cell?_of_block (Below.heap_setCell _ _ _ _ (by show x.block ≠ w.heap.size; omega))]
      exact HB2.out.cell h2
     ·exact ((HBW2.out.setCell (p := ⟨w.heap.size, 0, none⟩) (Nat.le_refl _) (.slice sa r sc)).setCell (p := ⟨w.heap.size, 1, none⟩) (Nat.le_refl _) (.slice ca cols.length cc)).drew)
    have HY3 : Hid (BoxN (((w2.setCell ⟨w.heap.size, 0, none⟩ (.slice sa r sc)).setCell ⟨w.heap.size, 1, none⟩ (.slice ca cols.length cc)).drew) w.heap.size 36 #[.slice sa r sc, .slice ca cols.length cc]) := hid ((HY2.out.set 0 (.slice sa r sc)).set 1 (.slice ca cols.length cc))
    go_region
    have z0 := HY3.out.cell 0 rfl
    have z1 := HY3.out.cell 1 rfl
    clear x0 x1 y0 y1 f0 f1
    go_wp2
    refine bodyPost_ret (v := .tuple #[.slice oa ds.length oc, .agg #[.slice sa r sc, .slice ca cols.length cc]]) (by simp [results, Tryz.results105, go_sem, z0, z1]) rfl HRES.out
end Go.Proofs.YtikiimlmoalbcaaGreatDoor
