/- Contract of the reference's Align (chapter 36), at any columns. Contract of the reference's Common (chapter 36), at any tables. -/
import Derived.Test.YthblaeleogdfpaaGreatDoorCTobh
import Derived.Test.YthblaeleogdfpaaGreatDoorCTobg
import Derived.Test.YthblaeleogdfpaaGreatDoorCTobk
import Derived.Test.YthblaeleogdfpaaGreatDoorCToau
set_option linter.unusedVariables false
set_option linter.unusedSimpArgs false
namespace Go.Proofs.YthblaeleogdfpaaGreatDoor
open Go.RowKit
theorem own_neC {w : World} {base : Nat} {e t : TypeId} {k n : Nat} {v : Value} {L : List Value} {b : Nat} {vs : Array Value} (h : w.ownsRow base e k v n L) (hb : BoxN w b t vs) (ht : e ≠ t) : v.ownBlock ≠ some b := by
 intro he
 rcases h.2 with ⟨h1, _⟩ | ⟨g', cap', cur, h1, hb1, hg, hn, hm, hs, ht1⟩
 ·subst h1; simp [Value.ownBlock] at he
 ·subst h1
  simp [Value.ownBlock] at he
  subst he
  rw [show w.heap[g']? = some (.cells vs t (0, 0)) from hb] at hg
  injection hg with hg
  injection hg with h2 h3
  exact ht h3.symm
theorem align_name {xs ys : List Co} (ha : Aligns xs ys) {q : Nat} (hq : q < xs.length) : idxN ys (xs.getD q Co.z).name < ys.length ∧ ∀ k, k < ys.length → ((ys.getD k Co.z).name = (xs.getD q Co.z).name ↔ k = idxN ys (xs.getD q Co.z).name) := by
 have hm : (xs.getD q Co.z).name ∈ namesL ys := ha.2.2.mem_iff.1 (name_mem hq)
 refine ⟨idxN_lt hm, fun k hk => ⟨fun e => ?_, fun e => ?_⟩⟩
 ·rw [← e, idxN_at ha.2.1 hk]
 ·rw [e, idxN_name hm]
set_option maxRecDepth 100000 in
set_option maxHeartbeats 4000000 in
theorem ref36_Align (i1 i2 : Int) (n1 n2 : ByteArray) (v u : Value) (xs ys : List Co) (B : Nat) (w : World) (hv : RdCo w (· < B) v xs) (hu : RdCo w (· < B) u ys) (hB : B ≤ w.heap.size) (hlx : xs.length ≤ 1048576) (hly : ys.length ≤ 1048576) :
  Calls Tryz.prog 15 #[.agg #[.int .i64 i1, .string n1, v], .agg #[.int .i64 i2, .string n2, u]] w (AlignP w xs ys) := by
 have HN1 := hid (fun W (hW : Below w.heap.size w W) => ref36_Names i1 n1 v xs B W (hv.keep fun p (hp : p.block < B) => hW.cell (p := p) (by omega)) (Nat.le_trans hB hW.size) hlx)
 have HN2 := hid (fun W (hW : Below w.heap.size w W) => ref36_Names i2 n2 u ys B W (hu.keep fun p (hp : p.block < B) => hW.cell (p := p) (by omega)) (Nat.le_trans hB hW.size) hly)
 have HNX : Hid ((namesL xs).length = xs.length) := hid (by simp [namesL])
 have HNY : Hid ((namesL ys).length = ys.length) := hid (by simp [namesL])
 have HAS := hid (fun q (h : q < xs.length) => align_succ (ys := ys) h)
 have HAN := hid (fun (ha : Aligns xs ys) q (h : q < xs.length) => align_name ha h)
 have HAL := hid (alignL_len xs ys)
 have HEQ : Hid (sortL (namesL xs) = sortL (namesL ys) ↔ (namesL xs).Perm (namesL ys)) := hid sortL_eq
 have HLX := hid (sortL_len (namesL xs))
 have HLY := hid (sortL_len (namesL ys))
 obtain ⟨cv, ⟨a, c, rfl, hc, hm, hr⟩, hkid⟩ := hv
 obtain ⟨cu, ⟨a2, c2, rfl, hc2, hm2, hr2⟩, hkid2⟩ := hu
 have HKD : Hid (∀ q, q < xs.length → ∃ a k m, cv q = .slice a k m) := hid (fun q hq => by
  obtain ⟨a, c, e, -⟩ := hkid q hq
  exact ⟨a, _, c, e⟩)
 have HKU : Hid (∀ q, q < ys.length → ∃ a k m, cu q = .slice a k m) := hid (fun q hq => by
  obtain ⟨a, c, e, -⟩ := hkid2 q hq
  exact ⟨a, _, c, e⟩)
 have HR := hid hr
 have HRU := hid hr2
 obtain ⟨i0, hi0, hz0, hz1, hz2⟩ := info_parts info_intE
 clear hr hkid hr2 hkid2
 have hx1 := (BoxN.new w #[.int .i64 i1, .string n1, .slice a xs.length c] 24).alloc (.cells #[.int .i64 i2, .string n2, .slice a2 ys.length c2] 24)
 have hx2 := BoxN.new (w.alloc (.cells #[.int .i64 i1, .string n1, .slice a xs.length c] 24)) #[.int .i64 i2, .string n2, .slice a2 ys.length c2] 24
 rw [World.size_alloc] at hx2
 have HB0 : Hid (Below w.heap.size w ((w.alloc (.cells #[.int .i64 i1, .string n1, .slice a xs.length c] 24)).alloc (.cells #[.int .i64 i2, .string n2, .slice a2 ys.length c2] 24))) := hid (((Below.refl _ w).alloc (Nat.le_refl _) _).alloc (by simp) _)
 have hz : ((w.alloc (.cells #[.int .i64 i1, .string n1, .slice a xs.length c] 24)).alloc (.cells #[.int .i64 i2, .string n2, .slice a2 ys.length c2] 24)).heap.size = w.heap.size + 2 := by simp
 unfold AlignP
 generalize hn : xs.length = n at *
 have HN := hid hn
 clear hn
 generalize hn' : ys.length = m at *
 have HM := hid hn'
 clear hn'
 unfold maxLen at hm hm2
 have c0 := hx1.cell 0 rfl
 have c1 := hx1.cell 1 rfl
 have c2' := hx1.cell 2 rfl
 have HX1 := hid hx1
 have HX2 := hid hx2
 clear hx1 hx2
 go_enter Tryz.func15, Tryz.ntmps15
 generalize hLA : Code.loop _ = LA
 generalize hLB : Code.loop _ = LB
 go_wp2_with fail
 with_reducible refine (HN1.out _ HB0.out).mono ?_
 clear c0 c1 c2'
 generalize (w.alloc (.cells #[.int .i64 i1, .string n1, .slice a n c] 24)).alloc (.cells #[.int .i64 i2, .string n2, .slice a2 m c2] 24) = W0 at *
 rintro e w1 ⟨xa, xc, rfl, hown1, hb1⟩
 rw [HNX.out] at hown1 ⊢
 have HX11 := hid (HX1.out.below hb1 HX1.out.lt)
 have HX21 := hid (HX2.out.below hb1 HX2.out.lt)
 have HB1 := hid (HB0.out.trans (hb1.mono HB0.out.size))
 have HOX := hid hown1
 have d0 := HX21.out.cell 0 rfl
 have d1 := HX21.out.cell 1 rfl
 have d2 := HX21.out.cell 2 rfl
 have hz1' := hb1.size
 clear hown1 hb1
 go_wp2_with fail
 with_reducible refine (HN2.out _ HB1.out).mono ?_
 rintro e w2 ⟨ya, yc, rfl, hown2, hb2⟩
 rw [HNY.out] at hown2 ⊢
 have HX12 := hid (HX11.out.below hb2 HX11.out.lt)
 have HX22 := hid (HX21.out.below hb2 HX21.out.lt)
 have HB2 := hid (HB1.out.trans (hb2.mono HB1.out.size))
 have hox : RdS w2 w2.heap.size (.slice xa n xc) (sortL (namesL xs)) := (Rd.below HOX.out hb2 (Nat.le_refl _)).more hb2.size
 have hoy := hown2
 unfold RdS at hox hoy
 rw [HLX.out, HNX.out] at hox
 rw [HLY.out, HNY.out] at hoy
 obtain ⟨xa', xc', e1, -, -, hrx⟩ := hox
 obtain ⟨ya', yc', e2, -, -, hry⟩ := hoy
 obtain ⟨rfl, -, rfl⟩ := Value.slice.inj e1
 obtain ⟨rfl, -, rfl⟩ := Value.slice.inj e2
 have HRX := hid hrx
 have HRY := hid hry
 have hz2' := hb2.size
 clear d0 d1 d2 hown2 hb2 e1 e2 hrx hry HOX
 by_cases ho : (namesL xs).Nodup
 ·by_cases hp : (namesL ys).Nodup
  ·rw [decide_eq_true ho, decide_eq_true hp]
   by_cases hnm : n = m
   ·subst hnm
    have hd0 : ((n : Int) != (n : Int)) = false := by simp
    go_wp2_with fail
    subst hLA
    have HQE : Hid ((∀ j, j < n → (sortL (namesL xs)).getD j ⟨#[]⟩ = (sortL (namesL ys)).getD j ⟨#[]⟩) → Aligns xs ys) := hid (fun h => ⟨ho, hp, HEQ.out.1 (by
     apply List.ext_getElem (by rw [HLX.out, HLY.out, HNX.out, HNY.out])
     intro i h1 h2
     have := h i (by rw [HLX.out, HNX.out] at h1; exact h1)
     simpa [List.getD, h1, h2] using this)⟩)
    have HQN : Hid (∀ j, j < n → (sortL (namesL xs)).getD j ⟨#[]⟩ ≠ (sortL (namesL ys)).getD j ⟨#[]⟩ → ¬ Aligns xs ys) := hid (fun j _ h ha => h (by rw [HEQ.out.2 ha.2.2]))
    generalize sortL (namesL xs) = X at *
    generalize sortL (namesL ys) = Y at *
    go_loopg [42] n (fun N i wr => ∃ q : Nat, q + N = n ∧ i = .int .i64 (q : Int) ∧ wr = w2 ∧ Hid (∀ j, j < q → X.getD j ⟨#[]⟩ = Y.getD j ⟨#[]⟩))
    case atStart => exact ⟨0, by omega, rfl, rfl, hid (fun j h => absurd h (by omega))⟩
    case round =>
     obtain ⟨q, hq, rfl, rfl, HSO⟩ := hrel
     by_cases hp1 : 0 < gk
     ·obtain ⟨bx, ox, rfl, hbx, hcx⟩ := HRX.out (by omega)
      obtain ⟨by', oy, rfl, hby, hcy⟩ := HRY.out (by omega)
      have k0 := hcx q (by omega)
      have k1 := hcy q (by omega)
      unfold strF at k0 k1
      have HNO := hid (HQN.out q (by omega))
      have HSO2 : Hid (X.getD q ⟨#[]⟩ = Y.getD q ⟨#[]⟩ → ∀ j, j < q + 1 → X.getD j ⟨#[]⟩ = Y.getD j ⟨#[]⟩) := hid (fun h j hj => by
       by_cases e : j = q
       ·subst e; exact h
       ·exact HSO.out j (by omega))
      clear hcx hcy
      generalize X.getD q ⟨#[]⟩ = s at *
      generalize Y.getD q ⟨#[]⟩ = t at *
      by_cases hst : s = t
      ·subst hst
       have hbe : (s.toList == s.toList) = true := by simp
       go_wp2_with fail
       go_roundg (gk - 1)
       case rel => exact ⟨q + 1, by omega, by go_num, rfl, hid (HSO2.out (by simp))⟩
       case measure => omega
      ·have hbe : (s.toList == t.toList) = false := by
        cases h : (s.toList == t.toList) with
        | false => rfl
        | true => exact absurd (bytes_ext (eq_of_beq h)) hst
       have hbe2 : (t.toList == s.toList) = false := by
        cases h : (t.toList == s.toList) with
        | false => rfl
        | true => exact absurd (bytes_ext (eq_of_beq h)).symm hst
       go_wp2
       go_ret2
       exact ⟨HB2.out, .inl ⟨HNO.out hst, rfl⟩⟩
     ·obtain rfl : q = n := by omega
      have HA := hid (HQE.out HSO.out)
      have HANA := hid (HAN.out HA.out)
      have c2' := HX12.out.cell 2 rfl
      have HBB := hid (Below.refl wr.heap.size wr)
      clear HQE HQN HRX HRY HSO
      go_wp2_with fail
      clear c2'
      subst hLB
      obtain ⟨w3, rfl⟩ : ∃ w3, w3 = wr := ⟨wr, rfl⟩
      go_loopg [12, 57] q (fun N v i wr => ∃ (p : Nat) (R : List Nat), p + N = q ∧ i = .int .i64 (p : Int) ∧ Hid (R = (alignL xs ys).take p) ∧ Hid (Below w3.heap.size w3 wr ∧ wr.ownsRow w3.heap.size 3 1 v R.length (intsV R)))
      case atStart => exact ⟨0, [], by omega, rfl, hid rfl, hid ⟨HBB.out, World.ownsRow_nil _ _ _ _⟩⟩
      case round =>
       obtain ⟨p, cur, hpq, rfl, HCU, HST⟩ := hrel
       have hql : cur.length = p := by rw [HCU.out, List.length_take, HAL.out]; omega
       have HQL := hid hql
       clear hql
       by_cases hp2 : 0 < gk
       ·obtain ⟨b, o, rfl, hb, hcell⟩ := HR.out (by omega)
        have hb' : b < B := hb
        have hwz := HST.out.1.size
        have hwzr := HB2.out.size
        have HBW := hid (HB2.out.trans (HST.out.1.mono HB2.out.size))
        have k0 : wr.cell? ⟨b, o + p * 2, none⟩ = some (.string (xs.getD p Co.z).name) := (HBW.out.cell (p := ⟨b, o + p * 2, none⟩) (by show b < _; omega)).trans (hcell p (by omega) 0 (by omega))
        have k1 : wr.cell? ⟨b, o + p * 2 + 1, none⟩ = some (cv p) := (HBW.out.cell (p := ⟨b, o + p * 2 + 1, none⟩) (by show b < _; omega)).trans (hcell p (by omega) 1 (by omega))
        obtain ⟨ka, kn, kc, hke⟩ := HKD.out p (by omega)
        rw [hke] at k1
        clear hke hcell
        have HS1 := hid (HAS.out p (by omega))
        have HNQ := hid (HANA.out p (by omega))
        rw [← HCU.out] at HS1
        generalize (xs.getD p Co.z).name = s at *
        generalize idxN ys s = k at *
        have HCX := hid (BoxN.new wr #[.string s, .slice ka kn kc] 30)
        have HBA := hid (HST.out.1.alloc hwz (.cells #[.string s, .slice ka kn kc] 30))
        have HOA := hid (HST.out.2.alloc (.cells #[.string s, .slice ka kn kc] 30))
        have hxa := (HX22.out.below HST.out.1 HX22.out.lt).alloc (.cells #[.string s, .slice ka kn kc] 30)
        have x2 := hxa.cell 2 rfl
        have hza : (wr.alloc (.cells #[.string s, .slice ka kn kc] 30)).heap.size = wr.heap.size + 1 := by simp
        clear hxa
        obtain ⟨ko, rfl⟩ : ∃ ko, ko = gk := ⟨gk, rfl⟩
        go_wp2_with fail
        clear x2 k0 k1
        generalize wr.alloc (.cells #[.string s, .slice ka kn kc] 30) = W4 at *
        generalize hcb : wr.heap.size = cb at *
        rw [show decide (p < q) = true from decide_eq_true (by omega)]
        go_loopg [12, 64] q (fun N v i wr => ∃ (j : Nat) (R : List Nat), j + N = q ∧ i = .int .i64 (j : Int) ∧ Hid (R = if k < j then cur ++ [k] else cur) ∧ Hid (Below w3.heap.size w3 wr ∧ wr.ownsRow w3.heap.size 3 1 v R.length (intsV R) ∧ BoxN wr cb 30 #[.string s, .slice ka kn kc]))
        case atStart => exact ⟨0, cur, by omega, rfl, hid (by rw [if_neg (by omega)]), hid ⟨HBA.out, HOA.out, HCX.out⟩⟩
        case round =>
         obtain ⟨j, R, hj, rfl, HRJ, HSI⟩ := hrel
         by_cases hp3 : 0 < gk
         ·obtain ⟨b2, o2, rfl, hb2, hcell2⟩ := HRU.out (by omega)
          have hb2' : b2 < B := hb2
          have hvz := HSI.out.1.size
          have HBV := hid (HB2.out.trans (HSI.out.1.mono HB2.out.size))
          have l0 : wr.cell? ⟨b2, o2 + j * 2, none⟩ = some (.string (ys.getD j Co.z).name) := (HBV.out.cell (p := ⟨b2, o2 + j * 2, none⟩) (by show b2 < _; omega)).trans (hcell2 j (by omega) 0 (by omega))
          have l1 : wr.cell? ⟨b2, o2 + j * 2 + 1, none⟩ = some (cu j) := (HBV.out.cell (p := ⟨b2, o2 + j * 2 + 1, none⟩) (by show b2 < _; omega)).trans (hcell2 j (by omega) 1 (by omega))
          obtain ⟨ua, un, uc, hue⟩ := HKU.out j (by omega)
          rw [hue] at l1
          clear hue hcell2
          have HNE := hid (HNQ.out.2 j (by omega))
          have HRJ2 : Hid (j ≠ k → R = if k < j + 1 then cur ++ [k] else cur) := hid (fun h => by
           rw [HRJ.out]
           by_cases e : k < j
           ·rw [if_pos e, if_pos (by omega)]
           ·rw [if_neg e, if_neg (by omega)])
          have HRJ3 : Hid (j = k → R ++ [j] = if k < j + 1 then cur ++ [k] else cur) := hid (fun h => by
           rw [HRJ.out, if_neg (by omega), if_pos (by omega), h])
          have hRl : R.length ≤ p + 1 := by
           rw [HRJ.out]
           have := HQL.out
           split <;> simp <;> omega
          generalize (ys.getD j Co.z).name = t at *
          have hcx := HSI.out.2.2.alloc (.cells #[.string t, .slice ua un uc] 30)
          have e0 := hcx.cell 0 rfl
          have HCXA := hid hcx
          have HBVA := hid (HSI.out.1.alloc hvz (.cells #[.string t, .slice ua un uc] 30))
          have HOVA := hid (HSI.out.2.1.alloc (.cells #[.string t, .slice ua un uc] 30))
          have hzv : (wr.alloc (.cells #[.string t, .slice ua un uc] 30)).heap.size = wr.heap.size + 1 := by simp
          clear hcx
          obtain ⟨a3, c3, rfl⟩ := own_slice HSI.out.2.1
          by_cases e : t = s
          ·have hbe : (t.toList == s.toList) = true := by rw [e]; simp
           have HJK := hid (HRJ3.out (HNE.out.1 e))
           have HIV : Hid (intsV R ++ [.int .i64 (j : Int)] = intsV (R ++ [j])) := hid (by simp [intsV])
           have HLV : Hid (R.length + 1 = (R ++ [j]).length) := hid (by simp)
           generalize R.length = rl at *
           generalize intsV R = rv at *
           clear e
           go_wp2_with (at_builtin; refine wpList_append_form _ rfl _ _ 25 25 rfl w3.heap.size 3 3 i0 (.int .i64 0) 1 8 Tryz.underlying25 Tryz.underlying25 hi0 hz0 hz1 hz2 rfl (by decide) (.slice a3 rl c3) rl rv rfl (HOVA.out.alloc _) (some ⟨_, 0, none⟩) 1 1 [.int .i64 (j : Int)] rfl rfl (fun _ => ⟨_, rfl, cell_one_at _ _ (by simp)⟩) (by intro u hu; simp at hu; subst hu; rfl) (by omega) (by unfold maxLen; omega) (by omega) (by simp; omega) ?_; intro p9 cap9 w9 hown9 hg9 hat9 hlt9; have HOWN9 := hid hown9; have HG9 := hid ((World.grownBy_alloc _ _ _).trans hg9); have HAT9 := hid hat9; clear hown9 hg9 hat9)
           have HB9 := hid (HBVA.out.grown HG9.out (Nat.le_trans hvz (by omega)) (fun k hk => (HOVA.out.lt k hk).1))
           have HCX9 := hid (HCXA.out.grown HG9.out (Ne.symm (own_neC HOVA.out HCXA.out (by decide))))
           go_roundg (gk - 1)
           case rel => exact ⟨j + 1, R ++ [j], by omega, by go_num, HJK, hid ⟨HB9.out, by have := HOWN9.out; rw [HIV.out] at this; rw [← HLV.out]; exact this, HCX9.out⟩⟩
           case measure => omega
          ·have hbe : (t.toList == s.toList) = false := by
            cases h : (t.toList == s.toList) with
            | false => rfl
            | true => exact absurd (bytes_ext (eq_of_beq h)) e
           have HJK := hid (HRJ2.out (fun h => e (HNE.out.2 h)))
           clear e
           go_wp2
           go_roundg (gk - 1)
           case rel => exact ⟨j + 1, R, by omega, by go_num, HJK, hid ⟨HBVA.out, HOVA.out, HCXA.out⟩⟩
           case measure => omega
         ·obtain rfl : j = q := by omega
          have HE : Hid (R = cur ++ [k]) := hid (by rw [HRJ.out, if_pos HNQ.out.1])
          go_wp2
          go_roundg (ko - 1)
          case rel => exact ⟨p + 1, R, by omega, by go_num, hid (by rw [HE.out, HS1.out]), hid ⟨HSI.out.1, HSI.out.2.1⟩⟩
          case measure => omega
       ·obtain rfl : p = q := by omega
        have HTA : Hid (cur = alignL xs ys) := hid (by rw [HCU.out, ← HAL.out, List.take_length])
        obtain ⟨a3, c3, rfl⟩ := own_slice HST.out.2
        have HO := hid HST.out.2
        have HB5 := hid (HB2.out.trans (HST.out.1.mono HB2.out.size))
        rw [HQL.out] at HO ⊢
        rw [HTA.out] at HO
        go_wp2
        go_ret2
        exact ⟨HB5.out, .inr ⟨HA.out, a3, c3, rfl, own_base HO.out HB2.out.size⟩⟩
   ·have hd0 : ((n : Int) != (m : Int)) = true := by simp; omega
    have ha : ¬ Aligns xs ys := fun h => hnm (by have := h.len; rw [HN.out, HM.out] at this; exact this)
    go_wp2
    go_ret2
    exact ⟨HB2.out, .inl ⟨ha, rfl⟩⟩
  ·have ha : ¬ Aligns xs ys := fun h => hp h.2.1
   rw [decide_eq_true ho, decide_eq_false hp]
   go_wp2
   go_ret2
   exact ⟨HB2.out, .inl ⟨ha, rfl⟩⟩
 ·have ha : ¬ Aligns xs ys := fun h => ho h.1
  rw [decide_eq_false ho]
  go_wp2
  go_ret2
  exact ⟨HB2.out, .inl ⟨ha, rfl⟩⟩
end Go.Proofs.YthblaeleogdfpaaGreatDoor

namespace Go.Proofs.YthblaeleogdfpaaGreatDoor
open Go.RowKit
def errB (ta tb : Ta) : Int := if tabB ta = true ∧ tabB tb = true then 0 else 1
def comB (ta tb : Ta) : Nat := if tabB ta = true ∧ tabB tb = true then commonL ta.cols tb.cols else 0
theorem info_boolE : (Tryz.prog.info? 4).map (fun i => (i.zero, i.size, i.bytes)) = some (some (.bool false), 1, 1) := by kernel_rfl
theorem made_boolsE (n : Nat) (h : n ≤ 1048576) (w : World) :
  (Instr.makeSlice 100 (.int .i64 (n : Int)) (.int .i64 (n : Int))).run Tryz.prog w = .ok (.slice (some ⟨w.heap.size, 0, none⟩) n n) (w.alloc (.cells (madeCells #[.bool false] n) 4)) :=
 run_make_row' (P := Tryz.prog) 100 4 (.bool false) 1 Tryz.underlying100 info_boolE rfl .i64 .i64 n (by omega) (by omega) w
set_option maxRecDepth 100000 in
set_option maxHeartbeats 4000000 in
theorem ref36_Common (ta tb : Ta) (v u : Value) (B : Nat) (w : World) (h1 : SzT ta) (h2 : SzT tb) (hv : RdCo w (· < B) v ta.cols) (hu : RdCo w (· < B) u tb.cols) (hB : B ≤ w.heap.size) (hT : Tabs w) :
  Calls Tryz.prog 17 #[.agg #[.int .i64 ta.id, .string ta.name, v], .agg #[.int .i64 tb.id, .string tb.name, u]] w (fun e w' => e = .returned (.tuple #[.int .i64 ((comB ta tb : Nat) : Int), .int .i64 (errB ta tb)]) ∧ Below w.heap.size w w') := by
 have HV1 := hid (fun W (hW : Below w.heap.size w W) => ref_ValidB ta v B W h1 (hv.keep fun p (hp : p.block < B) => hW.cell (p := p) (by omega)) (Nat.le_trans hB hW.size) (hT.below hW))
 have HV2 := hid (fun W (hW : Below w.heap.size w W) => ref_ValidB tb u B W h2 (hu.keep fun p (hp : p.block < B) => hW.cell (p := p) (by omega)) (Nat.le_trans hB hW.size) (hT.below hW))
 have HR1 := hid (fun W (hW : Below w.heap.size w W) => ref03_Rows ta.id ta.name v ta.cols B W (hv.keep fun p (hp : p.block < B) => hW.cell (p := p) (by omega)) (Nat.le_trans hB hW.size))
 have HR2 := hid (fun W (hW : Below w.heap.size w W) => ref03_Rows tb.id tb.name u tb.cols B W (hu.keep fun p (hp : p.block < B) => hW.cell (p := p) (by omega)) (Nat.le_trans hB hW.size))
 have HCR1 : Hid (rowsC ta.cols = rowsN ta.cols) := hid rfl
 have HCR2 : Hid (rowsC tb.cols = rowsN tb.cols) := hid rfl
 rw [HCR1.out] at HR1
 rw [HCR2.out] at HR2
 clear HCR1 HCR2
 have HCB := hid (show comB ta tb = if tabB ta = true ∧ tabB tb = true then commonL ta.cols tb.cols else 0 from rfl)
 have HEB := hid (show errB ta tb = if tabB ta = true ∧ tabB tb = true then 0 else 1 from rfl)
 have HAL := hid (fun (g1 : TabV ta) (g2 : TabV tb) W (hW : Below w.heap.size w W) => ref36_Align ta.id tb.id ta.name tb.name v u ta.cols tb.cols B W (hv.keep fun p (hp : p.block < B) => hW.cell (p := p) (by omega)) (hu.keep fun p (hp : p.block < B) => hW.cell (p := p) (by omega)) (Nat.le_trans hB hW.size) (by have := g1.2.2.2.1; omega) (by have := g2.2.2.2.1; omega))
 have HEQ := hid (fun (g1 : TabV ta) (g2 : TabV tb) (h : Aligns ta.cols tb.cols) x (hx : x < rowsN ta.cols) y (hy : y < rowsN tb.cols) vv B' W (hv' : InK 1 W (· < B') vv (alignL ta.cols tb.cols).length (fun j _ => .int .i64 (((alignL ta.cols tb.cols).getD j 0 : Nat) : Int))) (hB' : B' ≤ W.heap.size) (hBB : B ≤ B') (hW : Below w.heap.size w W) =>
  ref36_equal ta.id tb.id ta.name tb.name v u vv ta.cols tb.cols (alignL ta.cols tb.cols) x y B' W ((hv.keep fun p (hp : p.block < B) => hW.cell (p := p) (by omega)).more fun b hb => Nat.lt_of_lt_of_le hb hBB) ((hu.keep fun p (hp : p.block < B) => hW.cell (p := p) (by omega)).more fun b hb => Nat.lt_of_lt_of_le hb hBB) hv' hB' (alignL_len _ _)
   (fun i hi => align_lt h _ (getD_mem (by rw [alignL_len]; exact hi) 0)) (tab_row g1 hx) (tab_row g2 hy) (by have := g2.2.2.2.1; omega) (by have := rows_le g1; omega) (by have := rows_le g2; omega))
 have HTV1 := hid (fun (h : tabB ta = true) => tabV_ofB h)
 have HTV2 := hid (fun (h : tabB tb = true) => tabV_ofB h)
 have HRL1 := hid (fun (h : TabV ta) => rows_le h)
 have HRL2 := hid (fun (h : TabV tb) => rows_le h)
 have HCM : Hid (Aligns ta.cols tb.cols → commonL ta.cols tb.cols = comL (rowsOf ta.cols (ownL ta.cols) (rowsN ta.cols)) (rowsOf tb.cols (alignL ta.cols tb.cols) (rowsN tb.cols))) := hid (fun h => if_pos h)
 have HCN : Hid (¬ Aligns ta.cols tb.cols → commonL ta.cols tb.cols = 0) := hid (fun h => if_neg h)
 have HAN := hid (alignL_len ta.cols tb.cols)
 obtain ⟨a1, k1, rfl⟩ : ∃ a1 k1, v = .slice a1 ta.cols.length k1 := by
  obtain ⟨_, ⟨a1, k1, e, -⟩, -⟩ := hv
  exact ⟨a1, k1, e⟩
 obtain ⟨a2, k2, rfl⟩ : ∃ a2 k2, u = .slice a2 tb.cols.length k2 := by
  obtain ⟨_, ⟨a2, k2, e, -⟩, -⟩ := hu
  exact ⟨a2, k2, e⟩
 clear hv hu hT h1 h2
 generalize comB ta tb = R at *
 generalize errB ta tb = E at *
 generalize tabB ta = g1 at *
 generalize tabB tb = g2 at *
 generalize TabV ta = T1 at *
 generalize TabV tb = T2 at *
 generalize hn : ta.cols.length = n at *
 have HN := hid hn
 clear hn
 generalize tb.cols.length = m at *
 generalize ta.cols = xs at *
 generalize tb.cols = ys at *
 generalize ta.id = i1 at *
 generalize tb.id = i2 at *
 generalize ta.name = n1 at *
 generalize tb.name = n2 at *
 have HX1 := hid ((BoxN.new w #[.int .i64 i1, .string n1, .slice a1 n k1] 24).alloc (.cells #[.int .i64 i2, .string n2, .slice a2 m k2] 24))
 have hx2 := BoxN.new (w.alloc (.cells #[.int .i64 i1, .string n1, .slice a1 n k1] 24)) #[.int .i64 i2, .string n2, .slice a2 m k2] 24
 rw [World.size_alloc] at hx2
 have HX2 := hid hx2
 have HB0 : Hid (Below w.heap.size w ((w.alloc (.cells #[.int .i64 i1, .string n1, .slice a1 n k1] 24)).alloc (.cells #[.int .i64 i2, .string n2, .slice a2 m k2] 24))) := hid (((Below.refl _ w).alloc (Nat.le_refl _) _).alloc (by simp) _)
 have hz : ((w.alloc (.cells #[.int .i64 i1, .string n1, .slice a1 n k1] 24)).alloc (.cells #[.int .i64 i2, .string n2, .slice a2 m k2] 24)).heap.size = w.heap.size + 2 := by simp
 have c0 := HX1.out.cell 0 rfl
 have c1 := HX1.out.cell 1 rfl
 have c2 := HX1.out.cell 2 rfl
 clear hx2
 go_enter Tryz.func17, Tryz.ntmps17
 generalize hLA : Code.loop _ = LA
 go_wp2_with fail
 with_reducible refine (HV1.out _ HB0.out).mono ?_
 clear c0 c1 c2
 generalize (w.alloc (.cells #[.int .i64 i1, .string n1, .slice a1 n k1] 24)).alloc (.cells #[.int .i64 i2, .string n2, .slice a2 m k2] 24) = W0 at *
 rintro e w1 ⟨rfl, hb1⟩
 have HX11 := hid (HX1.out.below hb1 HX1.out.lt)
 have HX21 := hid (HX2.out.below hb1 HX2.out.lt)
 have HB1 := hid (HB0.out.trans (hb1.mono HB0.out.size))
 have d0 := HX21.out.cell 0 rfl
 have d1 := HX21.out.cell 1 rfl
 have d2 := HX21.out.cell 2 rfl
 have hz1 := hb1.size
 clear hb1
 cases g1 with
 | false =>
  obtain rfl : R = 0 := by rw [HCB.out, if_neg (by simp)]
  obtain rfl : E = 1 := by rw [HEB.out, if_neg (by simp)]
  go_wp2
  go_ret2
  exact ⟨rfl, HB1.out⟩
 | true =>
  go_wp2_with fail
  with_reducible refine (HV2.out _ HB1.out).mono ?_
  rintro e w2 ⟨rfl, hb2⟩
  have HX12 := hid (HX11.out.below hb2 HX11.out.lt)
  have HX22 := hid (HX21.out.below hb2 HX21.out.lt)
  have HB2 := hid (HB1.out.trans (hb2.mono HB1.out.size))
  have hz2 := hb2.size
  clear hb2 d0 d1 d2
  cases g2 with
  | false =>
   obtain rfl : R = 0 := by rw [HCB.out, if_neg (by simp)]
   obtain rfl : E = 1 := by rw [HEB.out, if_neg (by simp)]
   go_wp2
   go_ret2
   exact ⟨rfl, HB2.out⟩
  | true =>
   obtain rfl : E = 0 := by rw [HEB.out, if_pos (by simp)]
   have HRC : Hid (R = commonL xs ys) := hid (by rw [HCB.out, if_pos (by simp)])
   have HT1 := hid (HTV1.out (by simp))
   have HT2 := hid (HTV2.out (by simp))
   have hra := HRL1.out HT1.out
   have hrb := HRL2.out HT2.out
   clear HCB HEB
   have c0 := HX12.out.cell 0 rfl
   have c1 := HX12.out.cell 1 rfl
   have c2 := HX12.out.cell 2 rfl
   have d0 := HX22.out.cell 0 rfl
   have d1 := HX22.out.cell 1 rfl
   have d2 := HX22.out.cell 2 rfl
   go_wp2_with fail
   with_reducible refine (HAL.out HT1.out HT2.out _ HB2.out).mono ?_
   clear c0 c1 c2 d0 d1 d2
   rintro e w3 ⟨hb3, ⟨hna, rfl⟩ | ⟨ha, aa, ac, rfl, hown3⟩⟩
   ·have HB3 := hid (HB2.out.trans (hb3.mono HB2.out.size))
    obtain rfl : R = 0 := by rw [HRC.out]; exact HCN.out hna
    clear hna hb3
    go_wp2
    go_ret2
    exact ⟨rfl, HB3.out⟩
   ·have HA := hid ha
    have HB3 := hid (HB2.out.trans (hb3.mono HB2.out.size))
    have HX13 := hid (HX12.out.below hb3 HX12.out.lt)
    have HX23 := hid (HX22.out.below hb3 HX22.out.lt)
    have HOW := hid hown3
    have hz3 := hb3.size
    rw [HN.out] at hown3 HOW ⊢
    have HRCL := hid (HCM.out HA.out)
    have HEQ2 := hid (HEQ.out HT1.out HT2.out HA.out)
    have HLA1 := hid (rowsOf_len xs (ownL xs) (rowsN xs))
    have HLB1 := hid (rowsOf_len ys (alignL xs ys) (rowsN ys))
    have HAT1 : Hid (∀ x, x < rowsN xs → (rowsOf xs (ownL xs) (rowsN xs)).getD x [] = rowAt xs (ownL xs) x) := hid (fun x hx => by simp [rowsOf, List.getD, hx])
    have HAT2 : Hid (∀ x, x < rowsN ys → (rowsOf ys (alignL xs ys) (rowsN ys)).getD x [] = rowAt ys (alignL xs ys) x) := hid (fun x hx => by simp [rowsOf, List.getD, hx])
    have d0 := HX23.out.cell 0 rfl
    have d1 := HX23.out.cell 1 rfl
    have d2 := HX23.out.cell 2 rfl
    clear ha hb3 hown3 HEQ HCM HCN
    generalize rowsN xs = ra at *
    generalize rowsN ys = rb at *
    go_wp2_with fail
    with_reducible refine (HR2.out _ HB3.out).mono ?_
    clear d0 d1 d2
    rintro e w4 ⟨rfl, hb4⟩
    have HB4 := hid (HB3.out.trans (hb4.mono HB3.out.size))
    have HX14 := hid (HX13.out.below hb4 HX13.out.lt)
    have HX24 := hid (HX23.out.below hb4 HX23.out.lt)
    have HB34 := hid hb4
    have hz4 := hb4.size
    have hmk := made_boolsE rb (by omega)
    have HBM := hid ((Below.refl w4.heap.size w4).alloc (Nat.le_refl _) (.cells (madeCells #[.bool false] rb) 4))
    have HRO := hid (World.rowIs_made w4 (.bool false) rb 4)
    have HX15 := hid (HX14.out.alloc (.cells (madeCells #[.bool false] rb) 4))
    have HX25 := hid (HX24.out.alloc (.cells (madeCells #[.bool false] rb) 4))
    have HB5 := hid (HB4.out.alloc HB4.out.size (.cells (madeCells #[.bool false] rb) 4))
    have c0 := HX15.out.cell 0 rfl
    have c1 := HX15.out.cell 1 rfl
    have c2 := HX15.out.cell 2 rfl
    have hz5 : (w4.alloc (.cells (madeCells #[.bool false] rb) 4)).heap.size = w4.heap.size + 1 := by simp
    clear hb4
    go_wp2_with fail
    with_reducible refine (HR1.out _ HB5.out).mono ?_
    clear c0 c1 c2 hmk
    generalize w4.alloc (.cells (madeCells #[.bool false] rb) 4) = W5 at *
    generalize hob : w4.heap.size = ob at *
    rintro e w6 ⟨rfl, hb6⟩
    have HB6 := hid (HB5.out.trans (hb6.mono HB5.out.size))
    have HBo := hid (HBM.out.trans (hb6.mono (by have := HBM.out.size; omega)))
    have HRO6 := hid (HRO.out.of_block (hb6.block ob (by omega)))
    have HX16 := hid (HX15.out.below hb6 HX15.out.lt)
    have HX26 := hid (HX25.out.below hb6 HX25.out.lt)
    have hz6 := hb6.size
    clear hb6
    have HAI : Hid (∀ W, Below ob w4 W → InK 1 W (· < ob) (.slice aa n ac) (alignL xs ys).length (fun j _ => .int .i64 (((alignL xs ys).getD j 0 : Nat) : Int))) := hid (fun W hW => by
     have h1 := rd_of_owns HOW.out (fun j => .int .i64 (((alignL xs ys).getD j 0 : Nat) : Int)) (fun i hi => by
      have : i < (alignL xs ys).length := by rw [HAN.out]; exact hi
      simp [intsV, List.getD, this])
     have h2 := inK_of_rd h1
     rw [HAN.out]
     exact (h2.keep fun p hp => (hW.cell (p := p) (by have : p.block < w3.heap.size := hp; omega)).trans (HB34.out.cell (p := p) (by have : p.block < w3.heap.size := hp; omega))).more fun b hb => by have : b < w3.heap.size := hb; omega)
    subst hLA
    go_wp2_with fail
    go_loopg [9, 33] ra (fun N n i wr => ∃ (x nn : Nat) (T : Nat → Bool), x + N = ra ∧ n = .int .i64 (nn : Int) ∧ i = .int .i64 (x : Int) ∧ nn ≤ x ∧ Hid (comL (rowsOf xs (ownL xs) ra) (rowsOf ys (alignL xs ys) rb) = nn + comL ((rowsOf xs (ownL xs) ra).drop x) (leftR T (rowsOf ys (alignL xs ys) rb) [])) ∧ Hid (wr.rowIs ob 4 rb (fun y => .bool (T y)) ∧ Below ob w4 wr))
    case atStart => exact ⟨0, 0, fun _ => false, by omega, rfl, rfl, Nat.le_refl _, hid (by rw [left_none, Nat.zero_add]; rfl), hid ⟨HRO6.out, HBo.out⟩⟩
    case round =>
     obtain ⟨x, nn, T, hx, rfl, rfl, hnx, HCL, HST⟩ := hrel
     by_cases hp : 0 < gk
     ·have hxr : x < ra := by omega
      have HEQX := hid (HEQ2.out x hxr)
      have HNOX : Hid ((∀ y, y < rb → T y = false → eqAt xs ys (alignL xs ys) x y = false) → comL (rowsOf xs (ownL xs) ra) (rowsOf ys (alignL xs ys) rb) = nn + comL ((rowsOf xs (ownL xs) ra).drop (x + 1)) (leftR T (rowsOf ys (alignL xs ys) rb) [])) := hid (fun h => left_no (by rw [HLA1.out]; exact hxr) HCL.out (fun y hy ht he => by
       rw [HLB1.out] at hy
       rw [HAT1.out x hxr, HAT2.out y hy] at he
       have := h y hy ht
       unfold eqAt at this
       exact of_decide_eq_false this he.symm))
      have HYSX : Hid (∀ y, y < rb → T y = false → eqAt xs ys (alignL xs ys) x y = true → comL (rowsOf xs (ownL xs) ra) (rowsOf ys (alignL xs ys) rb) = nn + 1 + comL ((rowsOf xs (ownL xs) ra).drop (x + 1)) (leftR (fun z => T z || decide (z = y)) (rowsOf ys (alignL xs ys) rb) [])) := hid (fun y hy ht he => left_yes (by rw [HLA1.out]; exact hxr) HCL.out (by rw [HLB1.out]; exact hy) ht (by
       rw [HAT1.out x hxr, HAT2.out y hy]
       unfold eqAt at he
       exact (of_decide_eq_true he).symm))
      obtain ⟨ko, rfl⟩ : ∃ ko, ko = gk := ⟨gk, rfl⟩
      go_wp2_with fail
      go_loopg [9, 38] rb (fun N n i wr => ∃ y : Nat, y + N = rb ∧ n = .int .i64 (nn : Int) ∧ i = .int .i64 (y : Int) ∧ Hid (wr.rowIs ob 4 rb (fun y => .bool (T y)) ∧ Below ob w4 wr) ∧ Hid (∀ z, z < y → T z = false → eqAt xs ys (alignL xs ys) x z = false))
      case atStart => exact ⟨0, by omega, rfl, rfl, HST, hid (fun z h => absurd h (by omega))⟩
      case round =>
       obtain ⟨y, hy, rfl, rfl, HSI, HNI⟩ := hrel
       by_cases hp2 : 0 < gk
       ·have hyr : y < rb := by omega
        have t0 := HSI.out.1.cell (i := y) hyr
        have hobl := HSI.out.1.lt
        have hwo := HB4.out.size
        have hBV := HSI.out.2.size
        have HBV := hid (HB4.out.trans (HSI.out.2.mono (by omega)))
        by_cases hT : T y = true
        ·rw [hT] at t0
         have HNJ : Hid (∀ z, z < y + 1 → T z = false → eqAt xs ys (alignL xs ys) x z = false) := hid (fun z hz ht => by
          rcases Nat.lt_or_ge z y with h3 | h3
          ·exact HNI.out z h3 ht
          ·obtain rfl : z = y := by omega
           rw [hT] at ht; cases ht)
         clear hT
         go_wp2
         go_roundg (gk - 1)
         case rel => exact ⟨y + 1, by omega, rfl, by go_num, HSI, HNJ⟩
         case measure => omega
        ·have hT' : T y = false := by simpa using hT
         rw [hT'] at t0
         have HYS2 := hid (HYSX.out y hyr hT')
         have HNJ : Hid (eqAt xs ys (alignL xs ys) x y = false → ∀ z, z < y + 1 → T z = false → eqAt xs ys (alignL xs ys) x z = false) := hid (fun he z hz ht => by
          rcases Nat.lt_or_ge z y with h3 | h3
          ·exact HNI.out z h3 ht
          ·obtain rfl : z = y := by omega
           exact he)
         have hxa := HX14.out.below HSI.out.2 (by have := HX14.out.lt; omega)
         have hxb := HX24.out.below HSI.out.2 (by have := HX24.out.lt; omega)
         have c0 := hxa.cell 0 rfl
         have c1 := hxa.cell 1 rfl
         have c2 := hxa.cell 2 rfl
         have d0 := hxb.cell 0 rfl
         have d1 := hxb.cell 1 rfl
         have d2 := hxb.cell 2 rfl
         have HCAL := hid (HEQX.out y hyr (.slice aa n ac) ob wr (HAI.out wr HSI.out.2) (by omega) (by omega) HBV.out)
         clear hxa hxb hT hT'
         generalize eqAt xs ys (alignL xs ys) x y = ee at *
         go_wp2_with fail
         with_reducible refine HCAL.out.mono ?_
         clear c0 c1 c2 d0 d1 d2 t0 HCAL
         rintro e V1 ⟨rfl, hbv⟩
         have HRV := hid (HSI.out.1.of_block (hbv.block ob (by omega)))
         have HBV1 := hid (HSI.out.2.trans (hbv.mono (by omega)))
         clear hbv
         cases ee with
         | false =>
          have HNK := hid (HNJ.out rfl)
          go_wp2
          go_roundg (gk - 1)
          case rel => exact ⟨y + 1, by omega, rfl, by go_num, hid ⟨HRV.out, HBV1.out⟩, HNK⟩
          case measure => omega
         | true =>
          have HYK := hid (HYS2.out rfl)
          have f0 := HRV.out.frozen y
          have o0 := HRV.out.cell (i := y) hyr
          have HRW : Hid ((V1.setCell ⟨ob, y, none⟩ (.bool true)).rowIs ob 4 rb (fun z => .bool (T z || decide (z = y)))) := hid ((HRV.out.set y (.bool true)).congr (fun z hz => by
           by_cases e : z = y
           ·rw [if_pos e, decide_eq_true e, Bool.or_true]
           ·rw [if_neg e, decide_eq_false e, Bool.or_false]))
          have HBW := hid (HBV1.out.setCell (p := ⟨ob, y, none⟩) (Nat.le_refl _) (.bool true))
          go_wp2
          go_roundg (ko - 1)
          case rel => exact ⟨x + 1, nn + 1, _, by omega, by go_num, by go_num, by omega, HYK, hid ⟨HRW.out, HBW.out⟩⟩
          case measure => omega
       ·obtain rfl : y = rb := by omega
        have HNK := hid (HNOX.out HNI.out)
        go_wp2
        go_roundg (ko - 1)
        case rel => exact ⟨x + 1, nn, T, by omega, rfl, by go_num, by omega, HNK, HSI⟩
        case measure => omega
     ·obtain rfl : x = ra := by omega
      have hR : R = nn := by
       rw [HRC.out, HRCL.out, HCL.out, List.drop_eq_nil_of_le (by rw [HLA1.out]; exact Nat.le_refl _), comL_nil]
       rfl
      subst hR
      have HBE := hid (HB4.out.trans (HST.out.2.mono (by have := HB4.out.size; omega)))
      go_wp2
      go_ret2
      exact ⟨rfl, HBE.out⟩
end Go.Proofs.YthblaeleogdfpaaGreatDoor
