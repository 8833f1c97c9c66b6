/- Contract of explain.filters. -/
import Derived.Test.YtaajpliifdlokaaGreatDoorLnNrar
import Derived.Test.YtaajpliifdlokaaGreatDoorLnNrax
set_option linter.unusedVariables false
set_option linter.unusedSimpArgs false
namespace Go.Proofs.YtaajpliifdlokaaGreatDoor
open Go.RowKit
theorem own_apartC {w : World} {base base' : Nat} {e e' : TypeId} {size size' n n' : Nat} {v v' : Value} {xs xs' : List Value} (h : w.ownsRow base e size v n xs) (h' : w.ownsRow base' e' size' v' n' xs') (he : e ≠ e') :
    v.ownBlock = none ∨ v.ownBlock ≠ v'.ownBlock := by
  rcases h.2 with ⟨e1, _⟩ | ⟨g1, cap1, cur1, e1, _, hc1, _⟩
  · left; rw [e1]; rfl
  · right
    rcases h'.2 with ⟨e2, _⟩ | ⟨g2, cap2, cur2, e2, _, hc2, _⟩
    · rw [e1, e2]; simp [Value.ownBlock]
    · rw [e1, e2]
      intro h3
      have h4 : g1 = g2 := by simpa [Value.ownBlock] using h3
      rw [h4, hc2] at hc1
      simp at hc1
      exact he hc1.2.symm
theorem ps_push {W w8 : World} {base g n cap : Nat} {y : Value} {fs : List (List Po)} {L : List Value} {o : Po} (h : PsSt W base 74 y fs) (h0 : 0 < base) (hc : o.cols = []) (hn : n = fs.length + 1)
    (hL : ((W.alloc (.cells #[.int .i64 o.kind, .int .i64 o.col, .string o.text, .slice none 0 0] 122)).alloc (.cells #[.slice (some ⟨W.heap.size, 0, none⟩) 1 1] 74)).ownsRow base 74 1 y fs.length L)
    (hown : w8.ownsRow base 74 1 (.slice (some ⟨g, 0, none⟩) n cap) n (L ++ [.slice (some ⟨W.heap.size, 0, none⟩) 1 1]))
    (hg : ((W.alloc (.cells #[.int .i64 o.kind, .int .i64 o.col, .string o.text, .slice none 0 0] 122)).alloc (.cells #[.slice (some ⟨W.heap.size, 0, none⟩) 1 1] 74)).grownBy w8 y.ownBlock)
    (hat : y.ownBlock = some g ∨ g = ((W.alloc (.cells #[.int .i64 o.kind, .int .i64 o.col, .string o.text, .slice none 0 0] 122)).alloc (.cells #[.slice (some ⟨W.heap.size, 0, none⟩) 1 1] 74)).heap.size) :
    PsSt w8 base 74 (.slice (some ⟨g, 0, none⟩) n cap) (fs ++ [[o]]) := by
  have hlo := h.low
  obtain ⟨L0, hL0⟩ := h.owns
  have hb := (BoxN.new W #[.int .i64 o.kind, .int .i64 o.col, .string o.text, .slice none 0 0] 122).alloc (.cells #[.slice (some ⟨W.heap.size, 0, none⟩) 1 1] 74)
  exact ((h.alloc _).alloc _).push hL hn hown hg hat (rdPo_one hb (by rw [hc]; exact InK.nil) ⟨hlo, by simp; omega, fun e => by have := (hL0.lt _ e).2; omega⟩)
theorem hasC_take {xs : List Cl} {q : Nat} (h : q < xs.length) : ((xs.take (q + 1)).filter fun x => !x.null).map Cl.text = ((xs.take q).filter fun x => !x.null).map Cl.text ++ (if (xs.getD q Cl.z).null = true then [] else [(xs.getD q Cl.z).text]) := by
  rw [List.take_succ_eq_append_getElem h, List.filter_append, List.map_append]
  congr 1
  have e : xs.getD q Cl.z = xs[q] := by simp [List.getD, h]
  rw [e]
  cases hn : xs[q].null <;> simp [hn]
def filtTo (xs : List Co) (q : Nat) : List (List Po) := [] :: (List.range q).flatMap fun k => filters1 (xs.getD k Co.z) k
theorem filt_snoc (xs : List Co) (q : Nat) : filtTo xs (q + 1) = filtTo xs q ++ filters1 (xs.getD q Co.z) q := by
  unfold filtTo
  rw [List.range_succ, List.flatMap_append]
  simp
theorem filt_all (xs : List Co) : filtTo xs xs.length = filtersL xs := rfl
def filtIn (xs : List Co) (q j : Nat) : List (List Po) := filtTo xs q ++ ([opFull q] :: ((hasC (xs.getD q Co.z)).take j).map fun s => [opEq q s])
theorem filtIn_zero (xs : List Co) (q : Nat) : filtIn xs q 0 = filtTo xs q ++ [[opFull q]] := by simp [filtIn]
theorem filtIn_snoc {xs : List Co} {q j : Nat} (h : j < (hasC (xs.getD q Co.z)).length) : filtIn xs q (j + 1) = filtIn xs q j ++ [[opEq q ((hasC (xs.getD q Co.z)).getD j ⟨#[]⟩)]] := by
  unfold filtIn
  generalize hasC (xs.getD q Co.z) = H at *
  rw [List.take_succ_eq_append_getElem h, show H.getD j ⟨#[]⟩ = H[j] by simp [List.getD, h]]
  simp only [List.map_append, List.map_cons, List.map_nil, List.append_assoc, List.cons_append]
theorem filtIn_all (xs : List Co) (q : Nat) : filtIn xs q (hasC (xs.getD q Co.z)).length = filtTo xs (q + 1) := by
  rw [filt_snoc]
  unfold filtIn filters1
  rw [List.take_length]
theorem filtIn_len (xs : List Co) (q j : Nat) : (filtIn xs q j).length ≤ (filtTo xs q).length + 1 + j := by
  unfold filtIn
  rw [List.length_append, List.length_cons, List.length_map, List.length_take]
  omega
theorem hasC_len (c : Co) : (hasC c).length ≤ c.cells.length := by
  have h1 := setOfL_len ((c.cells.filter fun x => !x.null).map Cl.text)
  have h2 := List.length_filter_le (fun x => !x.null) c.cells
  unfold hasC
  rw [List.length_map] at h1
  omega
theorem filtTo_len {xs : List Co} {n : Nat} (hc : ∀ x ∈ xs, x.cells.length ≤ n) : ∀ q, q ≤ xs.length → (filtTo xs q).length ≤ 1 + q * (n + 1)
  | 0, _ => by simp [filtTo]
  | q + 1, h => by
    have ih := filtTo_len hc q (by omega)
    have h1 := hasC_len (xs.getD q Co.z)
    have h2 := hc _ (getD_mem (show q < xs.length by omega) Co.z)
    rw [filt_snoc, List.length_append]
    unfold filters1
    rw [List.length_cons, List.length_map, Nat.succ_mul]
    omega
set_option maxRecDepth 100000 in
set_option maxHeartbeats 4000000 in
theorem expl_filters (id : Int) (nm : ByteArray) (v : Value) (xs : List Co) (B n : Nat) (w : World) (hv : RdCo w (· < B) v xs) (hB : B ≤ w.heap.size) (hl : xs.length ≤ 64) (hc : ∀ x ∈ xs, x.cells.length = n) (hn : n ≤ 4096) (htx : ∀ x ∈ xs, ∀ c ∈ x.cells, c.text.size ≤ 1048576) :
  Calls Tryz.prog 168 #[.agg #[.int .i64 id, .string nm, v]] w (fun e w' => ∃ a c, e = .returned (.slice a (filtersL xs).length c) ∧ RdPs w' (News w w') (.slice a (filtersL xs).length c) (filtersL xs) ∧ Below w.heap.size w w') := by
 obtain ⟨i0, hi0, hz0, hz1, hz2⟩ := info_parts info_ops
 have hmm := @run_makeMap Tryz.prog
 obtain ⟨cv, ⟨va, vc, rfl, hvc, hvm, hr⟩, hcl⟩ := hv
 have HR := hid hr
 have HCL := hid hcl
 have HC := hid (fun q (hq : q < xs.length) => hc _ (getD_mem hq Co.z))
 have HTX := hid (fun q (hq : q < xs.length) j (hj : j < (xs.getD q Co.z).cells.length) => htx _ (getD_mem hq Co.z) _ (getD_mem hj Cl.z))
 have HFT : Hid (∀ q, q ≤ xs.length → (filtTo xs q).length ≤ 300000) := hid (fun q hq => by
  have h1 := filtTo_len (n := n) (fun x hx => Nat.le_of_eq (hc x hx)) q hq
  have h2 : q * (n + 1) ≤ 64 * 4097 := Nat.mul_le_mul (by omega) (by omega)
  omega)
 have HHL := hid (fun q (hq : q < xs.length) => (Nat.le_trans (hasC_len (xs.getD q Co.z)) (Nat.le_of_eq (hc _ (getD_mem hq Co.z)))))
 have HFA := hid (filt_all xs)
 have HF0 : Hid (filtTo xs 0 = [[]]) := hid rfl
 clear hr hcl hc htx
 unfold maxLen at hvm
 generalize hxl : xs.length = L at *
 clear hxl
 have HX0 := hid (BoxN.new w #[.int .i64 id, .string nm, .slice va L vc] 51)
 have HB0 := hid (((Below.refl w.heap.size w).alloc (Nat.le_refl _) (.cells #[.int .i64 id, .string nm, .slice va L vc] 51)).alloc (by simp) (.cells #[.slice none 0 0] 74))
 have hx2 := HX0.out.alloc (.cells #[.slice none 0 0] 74)
 have x2 := hx2.cell 2 rfl
 have hz0' : ((w.alloc (.cells #[.int .i64 id, .string nm, .slice va L vc] 51)).alloc (.cells #[.slice none 0 0] 74)).heap.size = w.heap.size + 2 := by simp
 have hps0 : PsSt ((w.alloc (.cells #[.int .i64 id, .string nm, .slice va L vc] 51)).alloc (.cells #[.slice none 0 0] 74)) (w.heap.size + 1) 74 (.slice (some ⟨w.heap.size + 1, 0, none⟩) 1 1) [[]] := by
  have h := World.ownsRow_lit (base := w.heap.size + 1) (e := 74) (size := 1) (w.alloc (.cells #[.int .i64 id, .string nm, .slice va L vc] 51)) #[.slice none 0 0] 1 (by simp) (by simp [maxLen]) rfl
  rw [World.size_alloc] at h
  exact ⟨fun _ => .slice none 0 0, h, by simp, fun i hi => by
   obtain rfl : i = 0 := by simp at hi; exact hi
   exact RdPo.nil⟩
 have HPS0 := hid hps0
 clear hx2 hps0 HX0
 go_enter Tryz.func168, Tryz.ntmps168
 generalize hLA : Code.loop _ = LA
 go_wp2_with fail
 generalize (w.alloc (.cells #[.int .i64 id, .string nm, .slice va L vc] 51)).alloc (.cells #[.slice none 0 0] 74) = W0 at *
 have hz0a := Nat.le_of_eq hz0'
 have hz0b := Nat.le_of_eq hz0'.symm
 clear hz0' x2
 subst hLA
 go_loopg [3, 15] L (fun N y i wr => ∃ (q : Nat), i = .int .i64 (q : Int) ∧ q + N = L ∧ w.heap.size + 2 ≤ wr.heap.size ∧ Hid (Below w.heap.size w wr) ∧ Hid (PsSt wr (w.heap.size + 1) 74 y (filtTo xs q)))
 case atStart => exact ⟨0, rfl, by omega, by omega, HB0, hid (by rw [HF0.out]; exact HPS0.out)⟩
 case round =>
  obtain ⟨q, rfl, hq, hlw, HB, HPS⟩ := hrel
  obtain ⟨wo, rfl⟩ : ∃ wo, wo = wr := ⟨wr, rfl⟩
  by_cases hp : 0 < gk
  ·have hqL : q < L := by omega
   obtain ⟨ba, oa, rfl, hba, hcella⟩ := HR.out (by omega)
   have hba' : ba < B := hba
   have k1 : wo.cell? ⟨ba, oa + q * 2, none⟩ = some (.string (xs.getD q Co.z).name) := (HB.out.cell (p := ⟨ba, oa + q * 2, none⟩) (by show ba < w.heap.size; omega)).trans (hcella q hqL 0 (by omega))
   have k2 : wo.cell? ⟨ba, oa + q * 2 + 1, none⟩ = some (cv q) := (HB.out.cell (p := ⟨ba, oa + q * 2 + 1, none⟩) (by show ba < w.heap.size; omega)).trans (hcella q hqL 1 (by omega))
   obtain ⟨ca, ck, hcq, -, hckm, hcr⟩ := HCL.out q hqL
   have hcn := HC.out q hqL
   have hft := HFT.out q (by omega)
   have hhl := HHL.out q hqL
   have HTXq := hid (HTX.out q hqL)
   rw [hcq, hcn] at k2
   rw [hcn] at hcr HTXq
   have HCR := hid hcr
   have HI0 := hid (filtIn_zero xs q)
   have HIS := hid (fun j h => @filtIn_snoc xs q j h)
   have HIA := hid (filtIn_all xs q)
   have HIL := hid (fun j => filtIn_len xs q j)
   have HCD : Hid (hasC (xs.getD q Co.z) = setOfL (((xs.getD q Co.z).cells.filter fun x => !x.null).map Cl.text)) := hid rfl
   have HTK : Hid (((xs.getD q Co.z).cells.take n) = (xs.getD q Co.z).cells) := hid (List.take_of_length_le (by omega))
   have HST := hid (fun j (hj : j < n) => @hasC_take (xs.getD q Co.z).cells j (by omega))
   clear hcella hcq hcr hcn
   generalize xs.getD q Co.z = x at *
   obtain ⟨xn, xc⟩ := x
   simp only at k1 HCR HTXq HCD HTK HST
   have hcb := (BoxN.new wo #[.string xn, .slice ca n ck] 55).alloc (.map #[] 0)
   have hmb := MapS.made (wo.alloc (.cells #[.string xn, .slice ca n ck] 55))
   rw [World.size_alloc] at hmb
   have HCB := hid hcb
   have HMB := hid hmb
   have HBO := hid ((((Below.refl wo.heap.size wo).alloc (Nat.le_refl _) (.cells #[.string xn, .slice ca n ck] 55))).alloc (by simp) (.map #[] 0))
   have hz5 : ((wo.alloc (.cells #[.string xn, .slice ca n ck] 55)).alloc (.map #[] 0)).heap.size = wo.heap.size + 2 := by simp
   have c1 := hcb.cell 1 rfl
   clear hcb hmb
   generalize hLB : Code.loop _ = LB
   go_wp2_with fail
   generalize (wo.alloc (.cells #[.string xn, .slice ca n ck] 55)).alloc (.map #[] 0) = W5 at *
   have hz5a := Nat.le_of_eq hz5
   have hz5b := Nat.le_of_eq hz5.symm
   clear hz5 k1 k2 c1
   subst hLB
   go_loopg [24] n (fun N i wr => ∃ (j : Nat), i = .int .i64 (j : Int) ∧ j + N = n ∧ wo.heap.size + 2 ≤ wr.heap.size ∧ Hid (Below wo.heap.size wo wr) ∧ Hid (BoxN wr wo.heap.size 55 #[.string xn, .slice ca n ck]) ∧ Hid (MapS wr (wo.heap.size + 1) j (((xc.take j).filter fun x => !x.null).map Cl.text)))
   case atStart => exact ⟨0, rfl, by omega, by omega, HBO, HCB, HMB⟩
   case round =>
    obtain ⟨j, rfl, hj, hlr, HG, HCX, HMS⟩ := hrel
    by_cases hjp : 0 < gk
    ·have hjn : j < n := by omega
     have HB5 := hid (HB.out.trans (HG.out.mono (by omega)))
     obtain ⟨b2, o2, rfl, hb2, hcell2⟩ := HCR.out (by omega)
     have hb2' : b2 < B := hb2
     have m0 : wr.cell? ⟨b2, o2 + j * 2, none⟩ = some (.bool (xc.getD j Cl.z).null) := (HB5.out.cell (p := ⟨b2, o2 + j * 2, none⟩) (by show b2 < w.heap.size; omega)).trans (hcell2 j hjn 0 (by omega))
     have m1 : wr.cell? ⟨b2, o2 + j * 2 + 1, none⟩ = some (.string (xc.getD j Cl.z).text) := (HB5.out.cell (p := ⟨b2, o2 + j * 2 + 1, none⟩) (by show b2 < w.heap.size; omega)).trans (hcell2 j hjn 1 (by omega))
     have hts := HTXq.out j hjn
     have HSTj := hid (HST.out j hjn)
     clear hcell2
     generalize xc.getD j Cl.z = cc at *
     obtain ⟨cn, ct⟩ := cc
     simp only at m0 m1 hts HSTj
     generalize ((xc.take j).filter fun x => !x.null).map Cl.text = X at *
     have HB6 := hid (HG.out.alloc (by omega) (.cells #[.bool cn, .string ct] 84))
     have HC6 := hid (HCX.out.alloc (.cells #[.bool cn, .string ct] 84))
     have HM6 := hid (HMS.out.later (w' := wr.alloc (.cells #[.bool cn, .string ct] 84)) (Below.heap_alloc _ _ _ HMS.out.lt))
     have HN6 := hid (BoxN.new wr #[.bool cn, .string ct] 84)
     have n0 := HN6.out.cell 0 rfl
     have n1 := HN6.out.cell 1 rfl
     cases cn with
     | true =>
      go_wp2
      go_roundg (gk - 1)
      case rel => exact ⟨j + 1, by go_num, by omega, by simp; omega, HB6, HC6, hid (by rw [HSTj.out, if_pos (by trivial), List.append_nil]; obtain ⟨D, ho, hs⟩ := HM6.out; exact ⟨D, ho.mono (by omega), hs⟩)⟩
      case measure => omega
     | false =>
      obtain ⟨w7, hrun, hms7, hg7⟩ := HM6.out.put (s := ct) (by unfold maxLen; omega) (by unfold maxLen; omega)
      have HG7 := hid hg7
      have HM7 := hid hms7
      clear hg7 hms7
      go_wp2
      go_roundg (gk - 1)
      case rel =>
       have hgs := HG7.out.size
       exact ⟨j + 1, by go_num, by omega, by simp at hgs; omega, hid (HB6.out.grown HG7.out (by simp; omega) (fun k hk => by cases hk; omega)), hid (HC6.out.grown HG7.out (by intro e; injection e with e; omega)), hid (by rw [HSTj.out, if_neg (by simp)]; exact HM7.out)⟩
      case measure => omega
    ·obtain rfl : gk = 0 := by omega
     obtain rfl : j = n := by omega
     have hms := HMS.out
     rw [HTK.out] at hms
     have HMF := hid hms
     have HPW := hid (HPS.out.later HG.out (by omega))
     have HBW := hid (HB.out.trans (HG.out.mono (by omega)))
     obtain ⟨L0, hL0⟩ := HPW.out.owns
     have HL0 := hid hL0
     obtain ⟨ya, yc, rfl⟩ := own_slice hL0
     obtain ⟨L1, hL1⟩ := HPS.out.owns
     have HYB : Hid (∀ k, (Value.slice ya (filtTo xs q).length yc).ownBlock = some k → k < wo.heap.size) := hid (fun k hk => (hL1.lt k hk).2)
     clear hL0 hL1 hms HMS HST HTK HCX
     have HIT0 : Hid (filtIn xs q 0 = filtTo xs q ++ [[opFull q]]) := HI0
     generalize filtTo xs q = fs at *
     generalize hfl : fs.length = m at *
     have HFL := hid hfl
     clear hfl
     have HL2 := hid ((HL0.out.alloc (.cells #[.int .i64 2, .int .i64 (q : Int), .string ⟨#[]⟩, .slice none 0 0] 122)).alloc (.cells #[.slice (some ⟨wr.heap.size, 0, none⟩) 1 1] 74))
     have hn2 := BoxN.new (wr.alloc (.cells #[.int .i64 2, .int .i64 (q : Int), .string ⟨#[]⟩, .slice none 0 0] 122)) #[.slice (some ⟨wr.heap.size, 0, none⟩) 1 1] 74
     rw [World.size_alloc] at hn2
     have HN2 := hid hn2
     have HB2 := hid ((HBW.out.alloc (by omega) (.cells #[.int .i64 2, .int .i64 (q : Int), .string ⟨#[]⟩, .slice none 0 0] 122)).alloc (by simp; omega) (.cells #[.slice (some ⟨wr.heap.size, 0, none⟩) 1 1] 74))
     clear hn2
     go_wp2_with (at_builtin; refine wpList_append_form _ rfl _ _ 119 119 rfl (w.heap.size + 1) 74 74 i0 (.slice none 0 0) 1 24 Tryz.underlying119 Tryz.underlying119 hi0 hz0 hz1 hz2 rfl (by decide) (.slice ya m yc) m _ rfl HL2.out (some ⟨_, 0, none⟩) 1 1 [.slice (some ⟨wr.heap.size, 0, none⟩) 1 1] rfl rfl (fun _ => ⟨_, rfl, World.news_of_block HN2.out⟩) (by intro u hu; simp at hu; subst hu; rfl) (by omega) (by unfold maxLen; omega) (by omega) (by simp; omega) ?_; intro p8 cap8 w8 hown8 hg8 hat8 hlt8; have HG8 := hid hg8; have HOWN8 := hid hown8; have HAT8 := hid hat8; clear hown8 hg8 hat8)
     have HP8 : Hid (PsSt w8 (w.heap.size + 1) 74 (.slice (some ⟨p8, 0, none⟩) (m + 1) cap8) (filtIn xs q 0)) := hid (by
      rw [HIT0.out]
      exact ps_push (o := opFull q) HPW.out (by omega) rfl (by rw [HFL.out]) (by rw [HFL.out]; exact HL2.out) HOWN8.out HG8.out HAT8.out)
     have hgs := HG8.out.size
     have hz8 : wr.heap.size + 2 ≤ w8.heap.size := by simpa using hgs
     have HB8 := hid (HB2.out.grown HG8.out (by simp; omega) (fun k hk => by have := (HL0.out.lt k hk).1; omega))
     have HM8 := hid (((HMF.out.later (w' := wr.alloc (.cells #[.int .i64 2, .int .i64 (q : Int), .string ⟨#[]⟩, .slice none 0 0] 122)) (Below.heap_alloc _ _ _ HMF.out.lt)).later (w' := (wr.alloc (.cells #[.int .i64 2, .int .i64 (q : Int), .string ⟨#[]⟩, .slice none 0 0] 122)).alloc (.cells #[.slice (some ⟨wr.heap.size, 0, none⟩) 1 1] 74)) (Below.heap_alloc _ _ _ (by have := HMF.out.lt; simp; omega))).later (w' := w8) (HG8.out.block _ (by have := HMF.out.lt; simp; omega) (fun e => by have := HYB.out _ e.symm; omega)))
     have HKY := hid (set_Sorted (wo.heap.size + 1) j _ w8 HM8.out (by omega))
     rw [← HCD.out] at HKY
     clear HM8 HMF HPW HL2 HN2 HL0 HG8 HOWN8 HAT8
     go_wp2_with fail
     with_reducible refine (lib_KeysB _ _).mono ?_
     rintro e w9 ⟨rfl, rfl⟩
     have HB9 := hid (HB8.out.alloc (by omega) (.cells #[.map (some (wo.heap.size + 1))] 231))
     have HP9 := hid (HP8.out.alloc (.cells #[.map (some (wo.heap.size + 1))] 231))
     have hz9 : (w8.alloc (.cells #[.map (some (wo.heap.size + 1))] 231)).heap.size = w8.heap.size + 1 := by simp
     clear HP8 HB8
     go_wp2_with fail
     with_reducible refine HKY.out.mono ?_
     generalize w8.alloc (.cells #[.map (some (wo.heap.size + 1))] 231) = W9 at *
     have hz9a := Nat.le_of_eq hz9
     have hz9b := Nat.le_of_eq hz9.symm
     clear hz9 HKY
     rintro e w10 ⟨sa, sc, rfl, hown10, hb10⟩
     have hz10 := hb10.size
     have HB10 := hid (HB9.out.trans (hb10.mono (by omega)))
     have HP10 := hid (HP9.out.later hb10 (by omega))
     have HOS := hid hown10
     clear hb10 hown10 HP9
     generalize hHn : (hasC (⟨xn, xc⟩ : Co)).length = hn2 at *
     have HHN := hid hHn
     clear hHn
     generalize hasC (⟨xn, xc⟩ : Co) = H at *
     go_wp2_with fail
     go_loopg [3, 45] hn2 (fun N y i wr => ∃ (k : Nat), i = .int .i64 (k : Int) ∧ k + N = hn2 ∧ w10.heap.size ≤ wr.heap.size ∧ Hid (Below w.heap.size w wr) ∧ Hid (wr.ownsRow W9.heap.size 9 1 (.slice sa hn2 sc) hn2 (H.map Value.string)) ∧ Hid (PsSt wr (w.heap.size + 1) 74 y (filtIn xs q k)))
     case atStart => exact ⟨0, rfl, by omega, by omega, HB10, HOS, HP10⟩
     case round =>
      obtain ⟨k, rfl, hk, hzr, HG, HOS, HPS2⟩ := hrel
      obtain ⟨L3, hL3⟩ := HPS2.out.owns
      have HL3 := hid hL3
      obtain ⟨za, zc, rfl⟩ := own_slice hL3
      clear hL3
      by_cases hkp : 0 < gk
      ·have hkn : k < hn2 := by omega
       obtain ⟨sb, sc', hsg, -, -⟩ := HOS.out.form (by omega)
       obtain ⟨rfl, -, rfl⟩ := Value.slice.inj hsg
       have s0 : wr.cell? ⟨sb, k, none⟩ = some (.string (H.getD k ⟨#[]⟩)) := (HOS.out.cellAt k (by omega)).trans (smap_get (by rw [HHN.out]; exact hkn))
       have HISk := hid (HIS.out k hkn)
       have hfil := HIL.out k
       clear hsg
       generalize H.getD k ⟨#[]⟩ = tx at *
       generalize filtIn xs q k = f2 at *
       generalize hf2l : f2.length = m2 at *
       have HF2L := hid hf2l
       clear hf2l
       have HL2 := hid ((HL3.out.alloc (.cells #[.int .i64 1, .int .i64 (q : Int), .string tx, .slice none 0 0] 122)).alloc (.cells #[.slice (some ⟨wr.heap.size, 0, none⟩) 1 1] 74))
       have hn2' := BoxN.new (wr.alloc (.cells #[.int .i64 1, .int .i64 (q : Int), .string tx, .slice none 0 0] 122)) #[.slice (some ⟨wr.heap.size, 0, none⟩) 1 1] 74
       rw [World.size_alloc] at hn2'
       have HN2 := hid hn2'
       have HB2' := hid ((HG.out.alloc (by omega) (.cells #[.int .i64 1, .int .i64 (q : Int), .string tx, .slice none 0 0] 122)).alloc (by simp; omega) (.cells #[.slice (some ⟨wr.heap.size, 0, none⟩) 1 1] 74))
       clear hn2'
       go_wp2_with (at_builtin; refine wpList_append_form _ rfl _ _ 119 119 rfl (w.heap.size + 1) 74 74 i0 (.slice none 0 0) 1 24 Tryz.underlying119 Tryz.underlying119 hi0 hz0 hz1 hz2 rfl (by decide) (.slice za m2 zc) m2 _ rfl HL2.out (some ⟨_, 0, none⟩) 1 1 [.slice (some ⟨wr.heap.size, 0, none⟩) 1 1] rfl rfl (fun _ => ⟨_, rfl, World.news_of_block HN2.out⟩) (by intro u hu; simp at hu; subst hu; rfl) (by omega) (by unfold maxLen; omega) (by omega) (by simp; omega) ?_; intro p9 cap9 w9 hown9 hg9 hat9 hlt9; have HG9 := hid hg9; have HOWN9 := hid hown9; have HAT9 := hid hat9; clear hown9 hg9 hat9)
       clear s0
       have HOS2 := hid ((HOS.out.alloc (.cells #[.int .i64 1, .int .i64 (q : Int), .string tx, .slice none 0 0] 122)).alloc (.cells #[.slice (some ⟨wr.heap.size, 0, none⟩) 1 1] 74))
       have hgs9 := HG9.out.size
       go_wp2
       go_roundg (gk - 1)
       case rel => exact ⟨k + 1, by go_num, by omega, by simp at hgs9; omega, hid (HB2'.out.grown HG9.out (by simp; omega) (fun k hk => by have := (HL3.out.lt k hk).1; omega)), hid (HOS2.out.kept HG9.out (own_apartC HOS2.out HL2.out (by decide))), hid (by
        rw [HISk.out]
        exact ps_push (o := opEq q tx) HPS2.out (by omega) rfl (by rw [HF2L.out]) (by rw [HF2L.out]; exact HL2.out) HOWN9.out HG9.out HAT9.out)⟩
       case measure => omega
      ·obtain rfl : gk = 0 := by omega
       obtain rfl : k = hn2 := by omega
       have HP3 : Hid (PsSt wr (w.heap.size + 1) 74 (.slice za (filtIn xs q k).length zc) (filtTo xs (q + 1))) := hid (by
        have h := HPS2.out
        rw [HIA.out] at h ⊢
        exact h)
       go_wp2
       go_roundg (gk - 1)
       case rel => exact ⟨q + 1, by go_num, by omega, by omega, HG, HP3⟩
       case measure => omega
  ·obtain rfl : gk = 0 := by omega
   obtain rfl : q = L := by omega
   have hps := HPS.out
   rw [HFA.out] at hps
   obtain ⟨L0, hL0⟩ := hps.owns
   obtain ⟨ya, yc, rfl⟩ := own_slice hL0
   have HRD := hid hps.read
   clear hps hL0
   go_wp2
   go_ret
   exact ⟨ya, yc, rfl, HRD.out.more fun b hb => ⟨by have := hb.1; omega, hb.2⟩, HB.out⟩
end Go.Proofs.YtaajpliifdlokaaGreatDoor
