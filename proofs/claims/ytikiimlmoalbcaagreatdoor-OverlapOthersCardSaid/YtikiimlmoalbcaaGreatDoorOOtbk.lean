/- Contract of overlap.Bounds at valid certificates. Contract of posting.Column. -/
import Derived.Test.YtikiimlmoalbcaaGreatDoorOOtbj
import Derived.Test.YtikiimlmoalbcaaGreatDoorOOtbc
import Derived.Test.YtikiimlmoalbcaaGreatDoorOOtaj
set_option linter.unusedVariables false
set_option linter.unusedSimpArgs false
namespace Go.Proofs.YtikiimlmoalbcaaGreatDoor
open Go.RowKit
structure CertR (w : World) (cs : List Cv) (zlv zcv : Value) (L K : List Nat) : Prop where
  rl : InN w (· < w.heap.size) zlv L
  rk : InN w (· < w.heap.size) zcv K
  al : L.Pairwise (· < ·)
  ak : K.Pairwise (· < ·)
  ml : ∀ x ∈ L, x < (setOfL (allOf cs)).length
  mm : ∀ x ∈ K, x < cs.length
  nl : L.length ≤ 1048576
theorem CertR.later {w W : World} {cs : List Cv} {zlv zcv : Value} {L K : List Nat} (h : CertR w cs zlv zcv L K) (hb : Below w.heap.size w W) : CertR W cs zlv zcv L K :=
 ⟨(InK.keep h.rl fun p hp => hb.cell (p := p) hp).more fun k hk => Nat.lt_of_lt_of_le hk hb.size, (InK.keep h.rk fun p hp => hb.cell (p := p) hp).more fun k hk => Nat.lt_of_lt_of_le hk hb.size, h.al, h.ak, h.ml, h.mm, h.nl⟩
def readB (cs : List Cv) (L : List Nat) (v : ByteArray) : Bool := L.any fun i => decide (valAt cs i = v)
def lowB (cs : List Cv) (q : List ByteArray) (L : List Nat) (c : Nat) : Nat := (q.filter fun v => hasL (setOfL (allOf cs)) v && (readB cs L v && hasL (cs.getD c Cv.z).2 v)).length
def openB (cs : List Cv) (q : List ByteArray) (L : List Nat) : Nat := (q.filter fun v => hasL (setOfL (allOf cs)) v && !readB cs L v).length
def bndB (cs : List Cv) (q : List ByteArray) (L K : List Nat) (c : Nat) : Nat × Nat :=
  if c ∈ K then (comC cs q c, comC cs q c) else (lowB cs q L c, min (lowB cs q L c + openB cs q L) (sizeC cs c))
theorem vals_nd (cs : List Cv) : (setOfL (allOf cs)).Nodup := asc_nodupB (setOfL_asc _)
theorem readB_at {cs : List Cv} {L : List Nat} (hL : ∀ x ∈ L, x < (setOfL (allOf cs)).length) {n : Nat} (hn : n < (setOfL (allOf cs)).length) : readB cs L (valAt cs n) = decide (n ∈ L) := by
 rw [Bool.eq_iff_iff, decide_eq_true_iff]
 unfold readB
 rw [List.any_eq_true]
 constructor
 ·rintro ⟨i, hi, e⟩
  have e1 := of_decide_eq_true e
  have h1 := hL i hi
  unfold valAt at e1
  have h2 : i = n := by
   have h3 := List.pairwise_iff_getElem.1 (vals_nd cs)
   rw [← List.getElem_eq_getD (h := h1), ← List.getElem_eq_getD (h := hn)] at e1
   rcases Nat.lt_trichotomy i n with h | h | h
   ·exact absurd e1 (h3 i n h1 hn h)
   ·exact h
   ·exact absurd e1.symm (h3 n i hn h1 h)
  exact h2 ▸ hi
 ·intro h
  exact ⟨n, h, decide_eq_true rfl⟩
theorem listOfV_has (cs : List Cv) {c : Nat} (hc : c < cs.length) (v : ByteArray) : (listOfV cs v).contains c = hasL (cs.getD c Cv.z).2 v := by
 rw [Bool.eq_iff_iff, List.contains_iff_mem]
 unfold listOfV
 rw [List.mem_filter, List.mem_range]
 exact ⟨fun h => h.2, fun h => ⟨hc, h⟩⟩
theorem filter_len_step (f : ByteArray → Bool) {q : List ByteArray} {p : Nat} (hp : p < q.length) : ((q.take (p + 1)).filter f).length = ((q.take p).filter f).length + if f (q.getD p ⟨#[]⟩) = true then 1 else 0 := by
 rw [filter_take f hp, List.length_append]
 split <;> rfl
set_option maxRecDepth 100000 in
set_option maxHeartbeats 8000000 in
theorem over_Bounds {w : World} {cs : List Cv} {q : List ByteArray} {ev vv lv qv zlv zcv : Value} {L K : List Nat} (hin : SrcIn w cs q ev vv lv qv) (hct : CertR w cs zlv zcv L K) (c : Nat) (hc : c < cs.length) :
  Calls Tryz.prog 24 #[.agg #[ev, vv, lv], qv, .agg #[zlv, zcv], .int .i64 (c : Int)] w (Ret w (.tuple #[.int .i64 ((bndB cs q L K c).1 : Int), .int .i64 ((bndB cs q L K c).2 : Int)])) := by
 have hvals := hin.vals
 have hql := hin.ql
 have hmany := hin.ok.many
 have hsz : sizeC cs c ≤ 4096 := hin.ok.len _ (getD_mem hc Cv.z)
 have hkl : K.length ≤ 65536 := by
  have h1 := nodup_leB (l := K) (m := List.range cs.length) (hct.ak.imp fun {a b} h => by omega) fun x hx => List.mem_range.2 (hct.mm x hx)
  rw [List.length_range] at h1
  omega
 have hnl := hct.nl
 obtain ⟨ea, ec, rfl, hec, hem, her⟩ := id hin.rd.ents
 obtain ⟨va, vc, rfl, hvc, hvm, hvr⟩ := id hin.rd.vals
 obtain ⟨lf, ⟨la, lc, rfl, hlc, hlm, hlr⟩, hkids⟩ := id hin.rd.lists
 obtain ⟨qa, qc, rfl, hqc, hqm, -⟩ := id hin.qrd
 obtain ⟨za, zc, rfl, hzc, hzm, -⟩ := id hct.rl
 obtain ⟨ka, kc, rfl, hkc, hkm, -⟩ := id hct.rk
 have hel : (indexOf cs).ents.length = cs.length := ents_len cs
 have hvl : (indexOf cs).vals.length = (setOfL (allOf cs)).length := rfl
 have hll : (indexOf cs).lists.length = (setOfL (allOf cs)).length := idx_lists cs
 rw [hel] at hin hec her ⊢
 rw [hvl] at hin hvc hvr ⊢
 rw [hll] at hin hlc hlr ⊢
 clear hel hvl hll
 have hni := num_ok hct.al hct.ml
 have hnk := num_ok hct.ak hct.mm
 have HVA := hid (fun W (hW : Below w.heap.size w W) => by
  have h := over_valid cs _ _ _ ⟨ea, ec, rfl⟩ ⟨va, vc, rfl⟩ ⟨la, (setOfL (allOf cs)).length, lc, rfl⟩ _ _ _ _ W (hct.later hW).rl.z (hct.later hW).rk.z (by rw [List.length_map]; omega) (by rw [List.length_map]; omega)
  rw [hni, hnk] at h
  exact h)
 clear hni hnk
 have HCN := hid (fun W (hW : Below w.heap.size w W) => over_Count (hin.later hW) c hc)
 have HSE := hid (fun W (hW : Below w.heap.size w W) => by
  have h := text_Set _ q W.heap.size W (hin.later hW).qrd (Nat.le_refl _) (by omega)
  rw [set_asc hin.asc] at h
  exact h)
 have HVR := hid (fun W s (hW : Below w.heap.size w W) => lib_BinAt (.slice va (setOfL (allOf cs)).length vc) (setOfL (allOf cs)) s W.heap.size W ((hin.later hW).rd.vals.rds fun _ h => h) (setOfL_asc _) (by omega))
 have HBK := hid (fun W (hW : Below w.heap.size w W) => lib_BinN _ K c W.heap.size W (hct.later hW).rk (hct.ak.imp fun {a b} h => by omega) (by omega))
 have HBL := hid (fun W i (hW : Below w.heap.size w W) => lib_BinN _ L i W.heap.size W (hct.later hW).rl (hct.al.imp fun {a b} h => by omega) (by omega))
 have HLI := hid (fun W n (hW : Below w.heap.size w W) (hn : n < (setOfL (allOf cs)).length) => (by
  obtain ⟨b, o, e, hb, hcell⟩ := hlr (by omega)
  have h1 : w.cell? ⟨b, o + n, none⟩ = some (lf n) := by have h := hcell n (by omega) 0 (by omega); simpa using h
  have h2 := (hkids n (by rw [idx_lists]; omega)).keep (w' := W) fun p (hp : p.block < w.heap.size) => hW.cell (p := p) hp
  have h2 : InN W (· < w.heap.size) (lf n) (listOfV cs (valAt cs n)) := by
   have e3 : (indexOf cs).lists.getD n [] = listOfV cs (valAt cs n) := by simp [indexOf, valAt, List.getD, hn]
   rw [e3] at h2
   exact h2
  obtain ⟨xa, xc, e5, -⟩ := id h2
  have hcn := lib_ContainsN _ (listOfV cs (valAt cs n)) c _ W h2
  rw [listOfV_has cs hc] at hcn
  rw [e5] at hcn h1
  exact ⟨b, o, xa, _, xc, e, (hW.cell (p := ⟨b, o + n, none⟩) hb).trans h1, hcn⟩ : ∃ b o xa n0 xc, la = some ⟨b, o, none⟩ ∧ W.cell? ⟨b, o + n, none⟩ = some (.slice xa n0 xc) ∧
   Calls Tryz.prog 70 #[.slice xa n0 xc, .int .i64 (c : Int)] W (fun e w' => e = .returned (.bool (hasL (cs.getD c Cv.z).2 (valAt cs n))) ∧ w' = W)))
 have HRB := hid (fun n (hn : n < (setOfL (allOf cs)).length) => readB_at hct.ml hn)
 have HEN := hid (fun W (hW : Below w.heap.size w W) => (by
  obtain ⟨b, o, e, hb, hcell⟩ := her (by omega)
  have h1 : w.cell? ⟨b, o + c * 3 + 2, none⟩ = some (.int .i64 (sizeC cs c : Nat)) := by
   rw [hcell c (by omega) 2 (by omega)]
   simp [entF, indexOf, entsOf, List.getD, hc, sizeC, three]
  exact ⟨b, o, e, (hW.cell (p := ⟨b, o + c * 3 + 2, none⟩) hb).trans h1⟩ : ∃ b o, ea = some ⟨b, o, none⟩ ∧ W.cell? ⟨b, o + c * 3 + 2, none⟩ = some (.int .i64 (sizeC cs c : Nat))))
 have HB1 : Hid (c ∈ K → bndB cs q L K c = (comC cs q c, comC cs q c)) := hid (fun h => if_pos h)
 have HB2 : Hid (c ∉ K → bndB cs q L K c = (lowB cs q L c, min (lowB cs q L c + openB cs q L) (sizeC cs c))) := hid (fun h => if_neg h)
 have HSL := hid (fun p (hp : p < q.length) => filter_len_step (fun v => hasL (setOfL (allOf cs)) v && (readB cs L v && hasL (cs.getD c Cv.z).2 v)) hp)
 have HSO := hid (fun p (hp : p < q.length) => filter_len_step (fun v => hasL (setOfL (allOf cs)) v && !readB cs L v) hp)
 have HEL : Hid (((q.take q.length).filter fun v => hasL (setOfL (allOf cs)) v && (readB cs L v && hasL (cs.getD c Cv.z).2 v)).length = lowB cs q L c) := hid (by rw [List.take_length]; rfl)
 have HEO : Hid (((q.take q.length).filter fun v => hasL (setOfL (allOf cs)) v && !readB cs L v).length = openB cs q L) := hid (by rw [List.take_length]; rfl)
 have HLL := hid (fun p (f : ByteArray → Bool) => (show ((q.take p).filter f).length ≤ p from Nat.le_trans (List.length_filter_le _ _) (List.length_take_le _ _)))
 generalize lowB cs q L c = LO at *
 generalize openB cs q L = OP at *
 generalize sizeC cs c = SZ at *
 generalize bndB cs q L K c = R at *
 generalize comC cs q c = CM at *
 clear hin hct hkids hlr her hvr
 generalize (cs.getD c Cv.z).2 = X at *
 have hci : (c : Int) < (cs.length : Int) := by omega
 have hci2 : ¬ (cs.length : Int) ≤ (c : Int) := by omega
 have hci3 : ¬ (c : Int) < 0 := by omega
 obtain ⟨NC, hNC⟩ : ∃ n, n = cs.length := ⟨_, rfl⟩
 obtain ⟨NV, hNV⟩ : ∃ n, n = (setOfL (allOf cs)).length := ⟨_, rfl⟩
 obtain ⟨NQ, hNQ⟩ : ∃ n, n = q.length := ⟨_, rfl⟩
 have HNV := hid hNV
 rw [← hNC] at hmany hc hec HVA HCN hci hci2 ⊢
 rw [← hNV] at hvals hvc hlc HVA HCN HVR HLI HRB ⊢
 rw [← hNQ] at hql hqc HCN HSE HSL HSO HEL HEO ⊢
 generalize L.length = NL at *
 generalize K.length = NK at *
 clear hNC hNV
 have HNQ := hid hNQ
 clear hNQ
 have hx0 := (BoxN.new w #[.slice ea NC ec, .slice va NV vc, .slice la NV lc] 30).alloc (.cells #[.slice za NL zc, .slice ka NK kc] 36)
 have hx1 := BoxN.new (w.alloc (.cells #[.slice ea NC ec, .slice va NV vc, .slice la NV lc] 30)) #[.slice za NL zc, .slice ka NK kc] 36
 rw [World.size_alloc] at hx1
 have HB0 := hid (((Below.refl w.heap.size w).alloc (Nat.le_refl _) (.cells #[.slice ea NC ec, .slice va NV vc, .slice la NV lc] 30)).alloc (by simp) (.cells #[.slice za NL zc, .slice ka NK kc] 36))
 go_enter Tryz.func24, Tryz.ntmps24
 generalize hLA : Code.loop _ = LA
 go_upto_region 1 with fail
 generalize (w.alloc (.cells #[.slice ea NC ec, .slice va NV vc, .slice la NV lc] 30)).alloc (.cells #[.slice za NL zc, .slice ka NK kc] 36) = W0 at *
 have HX := hid (fun W (hW : Below W0.heap.size W0 W) => (by
  have h1 := hx0.below hW hx0.lt
  have h2 := hx1.below hW hx1.lt
  exact ⟨h1.cell 0 rfl, h1.cell 1 rfl, h1.cell 2 rfl, h2.cell 0 rfl, h2.cell 1 rfl⟩ : W.cell? ⟨w.heap.size, 0, none⟩ = some (.slice ea NC ec) ∧ W.cell? ⟨w.heap.size, 1, none⟩ = some (.slice va NV vc) ∧ W.cell? ⟨w.heap.size, 2, none⟩ = some (.slice la NV lc) ∧ W.cell? ⟨w.heap.size + 1, 0, none⟩ = some (.slice za NL zc) ∧ W.cell? ⟨w.heap.size + 1, 1, none⟩ = some (.slice ka NK kc)))
 clear hx0 hx1
 obtain ⟨x0, x1, x2, y0, y1⟩ := HX.out W0 (Below.refl _ _)
 go_wp2_with fail
 with_reducible refine (HVA.out _ HB0.out).mono ?_
 rintro e w1 ⟨rfl, hb1⟩
 have HC1 := hid hb1
 have HB1' := hid (HB0.out.trans (hb1.mono HB0.out.size))
 clear x0 x1 x2 y0 y1 hb1
 obtain ⟨x0, x1, x2, y0, y1⟩ := HX.out w1 HC1.out
 go_wp2_with fail
 with_reducible refine (HBK.out _ HB1'.out).mono ?_
 rintro e w2 ⟨⟨z, rfl⟩, hb2⟩
 have HC2 := hid (HC1.out.trans (hb2.mono HC1.out.size))
 have HB2' := hid (HB1'.out.trans (hb2.mono HB1'.out.size))
 clear x0 x1 x2 y0 y1 hb2
 obtain ⟨x0, x1, x2, y0, y1⟩ := HX.out w2 HC2.out
 by_cases hK : c ∈ K
 ·have HR := hid (HB1.out hK)
  rw [decide_eq_true hK]
  clear hK HB1 HB2
  go_wp2_with fail
  with_reducible refine (HCN.out _ HB2'.out).mono ?_
  rintro e w3 ⟨rfl, hb3⟩
  have HB3 := hid (HB2'.out.trans (hb3.mono HB2'.out.size))
  clear hb3
  go_wp2
  refine bodyPost_ret (v := .tuple #[.int .i64 (CM : Int), .int .i64 (CM : Int)]) (by simp [results, Tryz.results24, go_sem]) rfl ?_
  exact ⟨by rw [HR.out], HB3.out⟩
 ·have HR := hid (HB2.out hK)
  rw [decide_eq_false hK]
  clear hK HB1 HB2
  go_wp2_with fail
  with_reducible refine (HSE.out _ HB2'.out).mono ?_
  rintro e w3 ⟨sa, sc, rfl, hown, hb3⟩
  have HRS := hid (rdS_of_own hown)
  have HC3 := hid (HC2.out.trans (hb3.mono HC2.out.size))
  have HB3 := hid (HB2'.out.trans (hb3.mono HB2'.out.size))
  have HQX : Hid (∀ i, i < NQ → ∃ b o, sa = some ⟨b, o, none⟩ ∧ b < w3.heap.size ∧ w3.cell? ⟨b, o + i, none⟩ = some (.string (q.getD i ⟨#[]⟩))) := hid (fun i hi => by
   obtain ⟨a, c, e, -, -, h⟩ := HRS.out
   obtain ⟨rfl, -, -⟩ := Value.slice.inj e
   have := HNQ.out
   obtain ⟨b, o, e2, hlt, h3⟩ := h (by omega)
   exact ⟨b, o, e2, hlt, h3 i (by omega)⟩)
  have hlq : q.length = NQ := HNQ.out.symm
  rw [hlq]
  clear hlq
  clear hown hb3 x0 x1 x2 y0 y1 HRS
  subst hLA
  go_wp2_with fail
  go_loopg [51, 8, 9, 14, 15, 16, 17, 18] NQ (fun K i lo hi u1 u2 u3 u4 u5 wr => ∃ p : Nat, i = .int .i64 (p : Int) ∧ p + K = NQ ∧ lo = .int .i64 ((((q.take p).filter fun v => hasL (setOfL (allOf cs)) v && (readB cs L v && hasL X v)).length : Nat) : Int) ∧ hi = .int .i64 ((((q.take p).filter fun v => hasL (setOfL (allOf cs)) v && !readB cs L v).length : Nat) : Int) ∧ Hid (Below w3.heap.size w3 wr))
  case atStart => exact ⟨0, rfl, by omega, by simp, by simp, hid (Below.refl _ _)⟩
  case round =>
   obtain ⟨p, rfl, hp0, rfl, rfl, HB4⟩ := hrel
   have HC4 := hid (HC3.out.trans (HB4.out.mono HC3.out.size))
   have HB5 := hid (HB3.out.trans (HB4.out.mono HB3.out.size))
   by_cases hp : 0 < gk
   ·have hpl : (p : Int) < (NQ : Int) := by omega
    obtain ⟨b, o, rfl, hbl, k0⟩ := HQX.out p (by omega)
    have k0 := (HB4.out.cell (p := ⟨b, o + p, none⟩) hbl).trans k0
    have hnq := HNQ.out
    have HS1 := hid (HSL.out p (by omega))
    have HS2 := hid (HSO.out p (by omega))
    have hl1 := HLL.out p (fun v => hasL (setOfL (allOf cs)) v && (readB cs L v && hasL X v))
    have hl2 := HLL.out p (fun v => hasL (setOfL (allOf cs)) v && !readB cs L v)
    clear hnq
    generalize hs : q.getD p ⟨#[]⟩ = s at *
    clear hs
    have HBQ := hid (HVR.out wr s HB5.out)
    obtain ⟨x0, x1, x2, y0, y1⟩ := HX.out wr HC4.out
    cases hF : hasL (setOfL (allOf cs)) s
    ·rw [hF] at HBQ
     have e1 : (((q.take (p + 1)).filter fun v => hasL (setOfL (allOf cs)) v && (readB cs L v && hasL X v)).length : Nat) = ((q.take p).filter fun v => hasL (setOfL (allOf cs)) v && (readB cs L v && hasL X v)).length := by rw [HS1.out]; simp only [hF] <;> rfl
     have e2 : (((q.take (p + 1)).filter fun v => hasL (setOfL (allOf cs)) v && !readB cs L v).length : Nat) = ((q.take p).filter fun v => hasL (setOfL (allOf cs)) v && !readB cs L v).length := by rw [HS2.out]; simp only [hF] <;> rfl
     have E1 := hid e1
     have E2 := hid e2
     clear e1 e2 HS1 HS2 hF
     generalize ((q.take p).filter fun v => hasL (setOfL (allOf cs)) v && (readB cs L v && hasL X v)).length = lo at *
     generalize ((q.take p).filter fun v => hasL (setOfL (allOf cs)) v && !readB cs L v).length = hi at *
     go_wp2_with fail
     with_reducible refine HBQ.out.mono ?_
     rintro e w5 ⟨z5, rfl, rfl, -⟩
     go_wp2_with fail
     go_roundg (gk - 1)
     case rel => exact ⟨p + 1, by go_num, by omega, by rw [E1.out], by rw [E2.out], HB4⟩
     case measure => omega
    ·rw [hF] at HBQ
     clear HLL
     go_wp2_with fail
     with_reducible refine HBQ.out.mono ?_
     rintro e w5 ⟨z5, rfl, rfl, hat⟩
     obtain ⟨n, rfl, hn, hsn⟩ := hat rfl
     have hn : n < NV := by have := HNV.out; omega
     have hni : (n : Int) < (NV : Int) := by omega
     have HRN := hid (HRB.out n hn)
     have HLN := hid (fun W hW => HLI.out W n hW hn)
     have HBN := hid (HBL.out w5 n HB5.out)
     have esn : valAt cs n = s := hsn
     rw [esn] at HRN HLN
     clear hsn esn hat hn
     go_wp2_with fail
     with_reducible refine HBN.out.mono ?_
     rintro e w6 ⟨⟨z6, rfl⟩, hb6⟩
     have HB6 := hid (HB4.out.trans (hb6.mono HB4.out.size))
     have HC6 := hid (HC4.out.trans (hb6.mono HC4.out.size))
     have HB7 := hid (HB5.out.trans (hb6.mono HB5.out.size))
     clear hb6 x0 x1 x2 y0 y1 k0
     obtain ⟨x0, x1, x2, y0, y1⟩ := HX.out w6 HC6.out
     by_cases hnL : n ∈ L
     ·have HRT := hid (HRN.out.trans (decide_eq_true hnL))
      rw [decide_eq_true hnL]
      clear hnL HRN
      have e2 : (((q.take (p + 1)).filter fun v => hasL (setOfL (allOf cs)) v && !readB cs L v).length : Nat) = ((q.take p).filter fun v => hasL (setOfL (allOf cs)) v && !readB cs L v).length := by rw [HS2.out]; simp only [hF, HRT.out] <;> rfl
      have E2 := hid e2
      obtain ⟨bb, oo, xa, n0, xc, rfl, k7, hcn⟩ := HLN.out w6 HB7.out
      have HCNT := hid hcn
      cases hcol : hasL X s
      ·have e1 : (((q.take (p + 1)).filter fun v => hasL (setOfL (allOf cs)) v && (readB cs L v && hasL X v)).length : Nat) = ((q.take p).filter fun v => hasL (setOfL (allOf cs)) v && (readB cs L v && hasL X v)).length := by rw [HS1.out]; simp only [hF, HRT.out, hcol] <;> rfl
       have E1 := hid e1
       rw [hcol] at HCNT
       clear e1 e2 HS1 HS2 hF hcol hcn HRT
       generalize ((q.take p).filter fun v => hasL (setOfL (allOf cs)) v && (readB cs L v && hasL X v)).length = lo at *
       generalize ((q.take p).filter fun v => hasL (setOfL (allOf cs)) v && !readB cs L v).length = hi at *
       go_wp2_with fail
       with_reducible refine HCNT.out.mono ?_
       rintro e w7 ⟨rfl, rfl⟩
       go_wp2_with fail
       go_roundg (gk - 1)
       case rel => exact ⟨p + 1, by go_num, by omega, by rw [E1.out], by rw [E2.out], HB6⟩
       case measure => omega
      ·have e1 : (((q.take (p + 1)).filter fun v => hasL (setOfL (allOf cs)) v && (readB cs L v && hasL X v)).length : Nat) = ((q.take p).filter fun v => hasL (setOfL (allOf cs)) v && (readB cs L v && hasL X v)).length + 1 := by rw [HS1.out]; simp only [hF, HRT.out, hcol] <;> rfl
       have E1 := hid e1
       rw [hcol] at HCNT
       clear e1 e2 HS1 HS2 hF hcol hcn HRT
       generalize ((q.take p).filter fun v => hasL (setOfL (allOf cs)) v && (readB cs L v && hasL X v)).length = lo at *
       generalize ((q.take p).filter fun v => hasL (setOfL (allOf cs)) v && !readB cs L v).length = hi at *
       go_wp2_with fail
       with_reducible refine HCNT.out.mono ?_
       rintro e w7 ⟨rfl, rfl⟩
       go_wp2_with fail
       go_roundg (gk - 1)
       case rel => exact ⟨p + 1, by go_num, by omega, by rw [E1.out]; go_num, by rw [E2.out], HB6⟩
       case measure => omega
     ·have HRF := hid (HRN.out.trans (decide_eq_false hnL))
      rw [decide_eq_false hnL]
      have e1 : (((q.take (p + 1)).filter fun v => hasL (setOfL (allOf cs)) v && (readB cs L v && hasL X v)).length : Nat) = ((q.take p).filter fun v => hasL (setOfL (allOf cs)) v && (readB cs L v && hasL X v)).length := by rw [HS1.out]; simp only [hF, HRF.out] <;> rfl
      have e2 : (((q.take (p + 1)).filter fun v => hasL (setOfL (allOf cs)) v && !readB cs L v).length : Nat) = ((q.take p).filter fun v => hasL (setOfL (allOf cs)) v && !readB cs L v).length + 1 := by rw [HS2.out]; simp only [hF, HRF.out] <;> rfl
      have E1 := hid e1
      have E2 := hid e2
      clear e1 e2 HS1 HS2 hF HRF hnL HRN
      generalize ((q.take p).filter fun v => hasL (setOfL (allOf cs)) v && (readB cs L v && hasL X v)).length = lo at *
      generalize ((q.take p).filter fun v => hasL (setOfL (allOf cs)) v && !readB cs L v).length = hi at *
      go_wp2_with fail
      go_roundg (gk - 1)
      case rel => exact ⟨p + 1, by go_num, by omega, by rw [E1.out], by rw [E2.out]; go_num, HB6⟩
      case measure => omega
   ·obtain rfl : gk = 0 := by omega
    obtain rfl : p = NQ := by omega
    have e1 := HEL.out
    have e2 := HEO.out
    rw [e1, e2]
    have hl1 := HLL.out p (fun v => hasL (setOfL (allOf cs)) v && (readB cs L v && hasL X v))
    have hl2 := HLL.out p (fun v => hasL (setOfL (allOf cs)) v && !readB cs L v)
    rw [e1] at hl1
    rw [e2] at hl2
    clear e1 e2 HLL
    obtain ⟨x0, x1, x2, y0, y1⟩ := HX.out wr HC4.out
    obtain ⟨eb, eo, rfl, k2⟩ := HEN.out wr HB5.out
    have HMIN : Hid (min ((LO : Int) + (OP : Int)) (SZ : Int) = ((min (LO + OP) SZ : Nat) : Int)) := hid (by omega)
    go_wp2_with fail
    go_region
    go_wp2
    refine bodyPost_ret (v := .tuple #[.int .i64 (LO : Int), .int .i64 (min ((LO : Int) + (OP : Int)) (SZ : Int))]) (by simp [results, Tryz.results24, go_sem]) rfl ?_
    exact ⟨by rw [HR.out, HMIN.out], by have h1 := HB5.out; repeat' (first | (with_reducible exact Below.refl _ _) | (with_reducible assumption) | (with_reducible refine below_drewN ?_) | (with_reducible refine Below.alloc ?_ ?_ _) | (with_reducible refine Below.drew ?_) | (with_reducible refine Below.setCell ?_ ?_ _) | (with_reducible refine Below.trans ?_ (Below.mono (by with_reducible assumption) ?_)) | go_size)⟩
end Go.Proofs.YtikiimlmoalbcaaGreatDoor

namespace Go.Proofs.YtikiimlmoalbcaaGreatDoor
open Go.RowKit
def reqB (a b : Int × Int) : Bool := decide (a.1 = b.1) && decide (a.2 = b.2)
set_option maxHeartbeats 1000000 in
theorem posting_Column1 (e1 e2 e3 r1 r2 : Int) (rb : Nat) (w : World) (h1 : w.cell? ⟨rb, 0, none⟩ = some (.int .i64 r1)) (h2 : w.cell? ⟨rb, 1, none⟩ = some (.int .i64 r2)) :
  Calls Tryz.prog 178 #[.agg #[.int .i64 e1, .int .i64 e2, .int .i64 e3], .pointer (some ⟨rb, 0, none⟩)] w (Ret w (.bool (reqB (e1, e2) (r1, r2)))) := by
 have hrl := World.block_lt_of_cell? _ _ h1
 have n1 : (w.alloc (.cells #[.int .i64 e1, .int .i64 e2, .int .i64 e3] 73)).cell? ⟨rb, 0, none⟩ = some (.int .i64 r1) := (World.cell?_alloc_lt _ _ _ hrl).trans h1
 have n2 : (w.alloc (.cells #[.int .i64 e1, .int .i64 e2, .int .i64 e3] 73)).cell? ⟨rb, 1, none⟩ = some (.int .i64 r2) := (World.cell?_alloc_lt _ _ _ (by exact hrl)).trans h2
 go_enter Tryz.func178, Tryz.ntmps178
 have HRQ : Hid (reqB (e1, e2) (r1, r2) = (decide (e1 = r1) && decide (e2 = r2))) := hid rfl
 generalize reqB (e1, e2) (r1, r2) = q at *
 go_wp2
 all_goals
  go_ret
  exact ⟨ret_bool (by rw [HRQ.out]; simp [*]), by have := Below.refl w.heap.size w; repeat' (first | (with_reducible exact Below.refl _ _) | (with_reducible assumption) | (with_reducible refine below_drewN ?_) | (with_reducible refine Below.alloc ?_ ?_ _) | (with_reducible refine Below.drew ?_) | (with_reducible refine Below.setCell ?_ ?_ _) | (with_reducible refine Below.trans ?_ (Below.mono (by with_reducible assumption) ?_)) | go_size)⟩
def findR : List (Int × Int) → Int × Int → Nat → Int
  | [], _, _ => -1
  | a :: l, r, k => if reqB a r = true then (k : Int) else findR l r (k + 1)
theorem findR_none : ∀ (l : List (Int × Int)) (r : Int × Int) (k : Nat), (∀ j, j < l.length → reqB (l.getD j (0, 0)) r = false) → findR l r k = -1
 | [], _, _, _ => rfl
 | a :: l, r, k, h => by
  have h0 := h 0 (by simp)
  simp at h0
  rw [findR, h0, if_neg (by simp)]
  exact findR_none l r (k + 1) fun j hj => by have := h (j + 1) (by simp; omega); simpa using this
theorem findR_at : ∀ (l : List (Int × Int)) (r : Int × Int) (k j : Nat), j < l.length → (∀ i, i < j → reqB (l.getD i (0, 0)) r = false) → reqB (l.getD j (0, 0)) r = true → findR l r k = ((k + j : Nat) : Int)
 | [], _, _, _, h, _, _ => by simp at h
 | a :: l, r, k, 0, _, _, h => by
  simp at h
  rw [findR, h, if_pos rfl]
  rfl
 | a :: l, r, k, j + 1, hj, h1, h2 => by
  have h0 := h1 0 (by omega)
  simp at h0
  rw [findR, h0, if_neg (by simp), findR_at l r (k + 1) j (by simpa using hj) (fun i hi => by have := h1 (i + 1) (by omega); simpa using this) (by simpa using h2)]
  congr 1
  omega
def refsE (es : List ((Int × Nat) × Nat)) : List (Int × Int) := es.map fun e => (e.1.1, (e.1.2 : Int))
theorem refsE_at {es : List ((Int × Nat) × Nat)} {i : Nat} (h : i < es.length) : (refsE es).getD i (0, 0) = ((es.getD i ((0, 0), 0)).1.1, ((es.getD i ((0, 0), 0)).1.2 : Int)) := by simp [refsE, List.getD, h]
set_option maxRecDepth 100000 in
set_option maxHeartbeats 1000000 in
theorem lib_IndexFunc (ev : Value) (es : List ((Int × Nat) × Nat)) (r1 r2 : Int) (rb B : Nat) (w : World) (hv : InK 3 w (· < B) ev es.length (entF es)) (hB : B ≤ w.heap.size) (hl : es.length ≤ 1048576)
  (h1 : w.cell? ⟨rb, 0, none⟩ = some (.int .i64 r1)) (h2 : w.cell? ⟨rb, 1, none⟩ = some (.int .i64 r2)) :
  Calls Tryz.prog 177 #[ev, .func (.func 178) #[] #[.pointer (some ⟨rb, 0, none⟩)]] w (Ret w (.int .i64 (findR (refsE es) (r1, r2) 0))) := by
 have hrl := World.block_lt_of_cell? _ _ h1
 have HCL := hid (fun W (hW : Below w.heap.size w W) e1 e2 e3 => posting_Column1 e1 e2 e3 r1 r2 rb W ((hW.cell (p := ⟨rb, 0, none⟩) hrl).trans h1) ((hW.cell (p := ⟨rb, 1, none⟩) (by exact hrl)).trans h2))
 obtain ⟨a, k, rfl, hk, hm, hrd⟩ := hv
 have HRD := hid hrd
 have HAT := hid (fun i h => @refsE_at es i h)
 have hrel : (refsE es).length = es.length := by simp [refsE]
 have HNO := hid (findR_none (refsE es) (r1, r2) 0)
 have HYE := hid (findR_at (refsE es) (r1, r2) 0)
 rw [hrel] at HNO HYE
 clear hrd h1 h2 hrel
 generalize findR (refsE es) (r1, r2) 0 = R at *
 generalize hn : es.length = n at *
 clear hn
 unfold maxLen at hm
 go_enter Tryz.func177, Tryz.ntmps177
 go_wp2_with fail
 go_loopg [8] n (fun N i wr => ∃ q : Nat, q + N = n ∧ i = .int .i64 (q : Int) ∧ Hid (Below w.heap.size w wr) ∧ Hid (∀ j, j < q → reqB ((refsE es).getD j (0, 0)) (r1, r2) = false))
 case atStart => exact ⟨0, by omega, rfl, hid (Below.refl _ _), hid (fun j h => absurd h (by omega))⟩
 case round =>
  obtain ⟨q, hq, rfl, HB, HALL⟩ := hrel
  by_cases hp : 0 < gk
  ·obtain ⟨b, o, rfl, hb, hcell⟩ := HRD.out (by omega)
   have hb' : b < B := hb
   have k0 : wr.cell? ⟨b, o + q * 3, none⟩ = some (.int .i64 (es.getD q ((0, 0), 0)).1.1) := (HB.out.cell (p := ⟨b, o + q * 3, none⟩) (by show b < _; omega)).trans (hcell q (by omega) 0 (by omega))
   have k1 : wr.cell? ⟨b, o + q * 3 + 1, none⟩ = some (.int .i64 ((es.getD q ((0, 0), 0)).1.2 : Int)) := (HB.out.cell (p := ⟨b, o + q * 3 + 1, none⟩) (by show b < _; omega)).trans (hcell q (by omega) 1 (by omega))
   have k2 : wr.cell? ⟨b, o + q * 3 + 2, none⟩ = some (.int .i64 ((es.getD q ((0, 0), 0)).2 : Int)) := (HB.out.cell (p := ⟨b, o + q * 3 + 2, none⟩) (by show b < _; omega)).trans (hcell q (by omega) 2 (by omega))
   have HQ := hid (HAT.out q (by omega))
   have HYQ := hid (HYE.out q (by omega) HALL.out)
   have HALL2 := hid (fun (h : reqB ((refsE es).getD q (0, 0)) (r1, r2) = false) (j : Nat) (hj : j < q + 1) => (show reqB ((refsE es).getD j (0, 0)) (r1, r2) = false from by
    rcases Nat.lt_or_ge j q with h3 | h3
    ·exact HALL.out j h3
    ·obtain rfl : j = q := by omega
     exact h))
   rw [HQ.out] at HYQ HALL2
   clear hcell HQ
   generalize es.getD q ((0, 0), 0) = en at *
   obtain ⟨⟨ti, ki⟩, sz⟩ := en
   simp only at k0 k1 k2 HYQ HALL2
   have HC := hid (HCL.out wr HB.out ti ki sz)
   have hwz := HB.out.size
   generalize hf : reqB (ti, (ki : Int)) (r1, r2) = f at *
   clear hf
   go_wp2_with fail
   with_reducible refine HC.out.mono ?_
   rintro e w1 ⟨rfl, hb1⟩
   have HB2 := hid (HB.out.trans (hb1.mono hwz))
   clear hb1 k0 k1 k2
   cases f
   ·go_wp2
    go_roundg (gk - 1)
    case rel => exact ⟨q + 1, by omega, by go_num, HB2, hid (HALL2.out (by trivial))⟩
    case measure => omega
   ·go_wp2
    go_ret
    exact ⟨ret_int (by rw [HYQ.out (by trivial)]; simp), HB2.out⟩
  ·obtain rfl : q = n := by omega
   go_wp2
   go_ret
   exact ⟨ret_int (by rw [HNO.out HALL.out]), HB.out⟩
set_option maxHeartbeats 1000000 in
theorem posting_Column (ix : Ix) (ev vv lv : Value) (r1 r2 : Int) (B : Nat) (w : World) (hx : RdIx w (· < B) ev vv lv ix) (hB : B ≤ w.heap.size) (hl : ix.ents.length ≤ 1048576) :
  Calls Tryz.prog 142 #[.agg #[ev, vv, lv], .agg #[.int .i64 r1, .int .i64 r2]] w (Ret w (.int .i64 (findR (refsE ix.ents) (r1, r2) 0))) := by
 obtain ⟨hE, ⟨va, vc, rfl, -⟩, lf, ⟨la, lc, rfl, -⟩, -⟩ := hx
 have HB0 : Hid (Below w.heap.size w ((w.alloc (.cells #[ev, .slice va ix.vals.length vc, .slice la ix.lists.length lc] 30)).alloc (.cells #[.int .i64 r1, .int .i64 r2] 51))) := hid (by have := Below.refl w.heap.size w; repeat' (first | (with_reducible exact Below.refl _ _) | (with_reducible assumption) | (with_reducible refine below_drewN ?_) | (with_reducible refine Below.alloc ?_ ?_ _) | (with_reducible refine Below.drew ?_) | (with_reducible refine Below.setCell ?_ ?_ _) | (with_reducible refine Below.trans ?_ (Below.mono (by with_reducible assumption) ?_)) | go_size))
 have hr := BoxN.new (w.alloc (.cells #[ev, .slice va ix.vals.length vc, .slice la ix.lists.length lc] 30)) #[.int .i64 r1, .int .i64 r2] 51
 rw [World.size_alloc] at hr
 have HI := hid (lib_IndexFunc ev ix.ents r1 r2 (w.heap.size + 1) B _ (hE.keep fun p (hp : p.block < B) => HB0.out.cell (p := p) (by omega)) (Nat.le_trans hB HB0.out.size) hl (hr.cell 0 rfl) (hr.cell 1 rfl))
 obtain ⟨ea, ec, rfl, -⟩ := hE
 clear hr
 generalize findR (refsE ix.ents) (r1, r2) 0 = R at *
 generalize ix.ents.length = n1 at *
 generalize ix.vals.length = n2 at *
 generalize ix.lists.length = n3 at *
 go_enter Tryz.func142, Tryz.ntmps142
 go_wp2_with fail
 with_reducible refine HI.out.mono ?_
 rintro e w1 ⟨rfl, hb1⟩
 have HB1 := hid (HB0.out.trans (hb1.mono HB0.out.size))
 clear hb1
 go_wp2
 go_ret
 exact ⟨rfl, HB1.out⟩
end Go.Proofs.YtikiimlmoalbcaaGreatDoor
namespace Go.Proofs.YtikiimlmoalbcaaGreatDoor
open Go.RowKit
end Go.Proofs.YtikiimlmoalbcaaGreatDoor
