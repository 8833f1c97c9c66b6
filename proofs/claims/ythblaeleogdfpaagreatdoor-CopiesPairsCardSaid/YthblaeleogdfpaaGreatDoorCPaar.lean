/- Contract of the reference's Align (chapter 36), at any columns. Tables that pass the checks; the contract of the reference's equal (chapter 36). -/
import Derived.Test.YthblaeleogdfpaaGreatDoorCPaaq
import Derived.Test.YthblaeleogdfpaaGreatDoorCPaak
import Derived.Test.YthblaeleogdfpaaGreatDoorCPaac
import Derived.Test.YthblaeleogdfpaaGreatDoorCPaaj
set_option linter.unusedVariables false
set_option linter.unusedSimpArgs false
namespace Go.Proofs.YthblaeleogdfpaaGreatDoor
open Go.RowKit
theorem own_neC {w : World} {base : Nat} {e t : TypeId} {k n : Nat} {v : Value} {L : List Value} {b : Nat} {vs : Array Value} (h : w.ownsRow base e k v n L) (hb : BoxN w b t vs) (ht : e ≠ t) : v.ownBlock ≠ some b := by
  intro he
  rcases h.2 with ⟨h1, _⟩ | ⟨g', cap', cur, h1, hb1, hg, hn, hm, hs, ht1⟩
  · subst h1; simp [Value.ownBlock] at he
  · subst h1
    simp [Value.ownBlock] at he
    subst he
    rw [show w.heap[g']? = some (.cells vs t (0, 0)) from hb] at hg
    injection hg with hg
    injection hg with h2 h3
    exact ht h3.symm
theorem align_name {xs ys : List Co} (ha : Aligns xs ys) {q : Nat} (hq : q < xs.length) : idxN ys (xs.getD q Co.z).name < ys.length ∧ ∀ k, k < ys.length → ((ys.getD k Co.z).name = (xs.getD q Co.z).name ↔ k = idxN ys (xs.getD q Co.z).name) := by
  have hm : (xs.getD q Co.z).name ∈ namesL ys := ha.2.2.mem_iff.1 (name_mem hq)
  refine ⟨idxN_lt hm, fun k hk => ⟨fun e => ?_, fun e => ?_⟩⟩
  · rw [← e, idxN_at ha.2.1 hk]
  · rw [e, idxN_name hm]
set_option maxRecDepth 100000 in
set_option maxHeartbeats 4000000 in
theorem ref36_Align (i1 i2 : Int) (n1 n2 : ByteArray) (v u : Value) (xs ys : List Co) (B : Nat) (w : World) (hv : RdCo w (· < B) v xs) (hu : RdCo w (· < B) u ys) (hB : B ≤ w.heap.size) (hlx : xs.length ≤ 1048576) (hly : ys.length ≤ 1048576) :
  Calls Tryz.prog 15 #[.agg #[.int .i64 i1, .string n1, v], .agg #[.int .i64 i2, .string n2, u]] w (AlignP w xs ys) := by
 have HN1 := hid (fun W (hW : Below w.heap.size w W) => ref36_Names i1 n1 v xs B W (hv.keep fun p (hp : p.block < B) => hW.cell (p := p) (by omega)) (Nat.le_trans hB hW.size) hlx)
 have HN2 := hid (fun W (hW : Below w.heap.size w W) => ref36_Names i2 n2 u ys B W (hu.keep fun p (hp : p.block < B) => hW.cell (p := p) (by omega)) (Nat.le_trans hB hW.size) hly)
 have HNX : Hid ((namesL xs).length = xs.length) := hid (by simp [namesL])
 have HNY : Hid ((namesL ys).length = ys.length) := hid (by simp [namesL])
 have HAS := hid (fun q (h : q < xs.length) => align_succ (ys := ys) h)
 have HAN := hid (fun (ha : Aligns xs ys) q (h : q < xs.length) => align_name ha h)
 have HAL := hid (alignL_len xs ys)
 have HEQ : Hid (sortL (namesL xs) = sortL (namesL ys) ↔ (namesL xs).Perm (namesL ys)) := hid sortL_eq
 have HLX := hid (sortL_len (namesL xs))
 have HLY := hid (sortL_len (namesL ys))
 obtain ⟨cv, ⟨a, c, rfl, hc, hm, hr⟩, hkid⟩ := hv
 obtain ⟨cu, ⟨a2, c2, rfl, hc2, hm2, hr2⟩, hkid2⟩ := hu
 have HKD : Hid (∀ q, q < xs.length → ∃ a k m, cv q = .slice a k m) := hid (fun q hq => by
  obtain ⟨a, c, e, -⟩ := hkid q hq
  exact ⟨a, _, c, e⟩)
 have HKU : Hid (∀ q, q < ys.length → ∃ a k m, cu q = .slice a k m) := hid (fun q hq => by
  obtain ⟨a, c, e, -⟩ := hkid2 q hq
  exact ⟨a, _, c, e⟩)
 have HR := hid hr
 have HRU := hid hr2
 obtain ⟨i0, hi0, hz0, hz1, hz2⟩ := info_parts info_intE
 clear hr hkid hr2 hkid2
 have hx1 := (BoxN.new w #[.int .i64 i1, .string n1, .slice a xs.length c] 24).alloc (.cells #[.int .i64 i2, .string n2, .slice a2 ys.length c2] 24)
 have hx2 := BoxN.new (w.alloc (.cells #[.int .i64 i1, .string n1, .slice a xs.length c] 24)) #[.int .i64 i2, .string n2, .slice a2 ys.length c2] 24
 rw [World.size_alloc] at hx2
 have HB0 : Hid (Below w.heap.size w ((w.alloc (.cells #[.int .i64 i1, .string n1, .slice a xs.length c] 24)).alloc (.cells #[.int .i64 i2, .string n2, .slice a2 ys.length c2] 24))) := hid (((Below.refl _ w).alloc (Nat.le_refl _) _).alloc (by simp) _)
 have hz : ((w.alloc (.cells #[.int .i64 i1, .string n1, .slice a xs.length c] 24)).alloc (.cells #[.int .i64 i2, .string n2, .slice a2 ys.length c2] 24)).heap.size = w.heap.size + 2 := by simp
 unfold AlignP
 generalize hn : xs.length = n at *
 have HN := hid hn
 clear hn
 generalize hn' : ys.length = m at *
 have HM := hid hn'
 clear hn'
 unfold maxLen at hm hm2
 have c0 := hx1.cell 0 rfl
 have c1 := hx1.cell 1 rfl
 have c2' := hx1.cell 2 rfl
 have HX1 := hid hx1
 have HX2 := hid hx2
 clear hx1 hx2
 go_enter Tryz.func15, Tryz.ntmps15
 generalize hLA : Code.loop _ = LA
 generalize hLB : Code.loop _ = LB
 go_wp2_with fail
 with_reducible refine (HN1.out _ HB0.out).mono ?_
 clear c0 c1 c2'
 generalize (w.alloc (.cells #[.int .i64 i1, .string n1, .slice a n c] 24)).alloc (.cells #[.int .i64 i2, .string n2, .slice a2 m c2] 24) = W0 at *
 rintro e w1 ⟨xa, xc, rfl, hown1, hb1⟩
 rw [HNX.out] at hown1 ⊢
 have HX11 := hid (HX1.out.below hb1 HX1.out.lt)
 have HX21 := hid (HX2.out.below hb1 HX2.out.lt)
 have HB1 := hid (HB0.out.trans (hb1.mono HB0.out.size))
 have HOX := hid hown1
 have d0 := HX21.out.cell 0 rfl
 have d1 := HX21.out.cell 1 rfl
 have d2 := HX21.out.cell 2 rfl
 have hz1' := hb1.size
 clear hown1 hb1
 go_wp2_with fail
 with_reducible refine (HN2.out _ HB1.out).mono ?_
 rintro e w2 ⟨ya, yc, rfl, hown2, hb2⟩
 rw [HNY.out] at hown2 ⊢
 have HX12 := hid (HX11.out.below hb2 HX11.out.lt)
 have HX22 := hid (HX21.out.below hb2 HX21.out.lt)
 have HB2 := hid (HB1.out.trans (hb2.mono HB1.out.size))
 have hox : RdS w2 w2.heap.size (.slice xa n xc) (sortL (namesL xs)) := (Rd.below HOX.out hb2 (Nat.le_refl _)).more hb2.size
 have hoy := hown2
 unfold RdS at hox hoy
 rw [HLX.out, HNX.out] at hox
 rw [HLY.out, HNY.out] at hoy
 obtain ⟨xa', xc', e1, -, -, hrx⟩ := hox
 obtain ⟨ya', yc', e2, -, -, hry⟩ := hoy
 obtain ⟨rfl, -, rfl⟩ := Value.slice.inj e1
 obtain ⟨rfl, -, rfl⟩ := Value.slice.inj e2
 have HRX := hid hrx
 have HRY := hid hry
 have hz2' := hb2.size
 clear d0 d1 d2 hown2 hb2 e1 e2 hrx hry HOX
 by_cases ho : (namesL xs).Nodup
 ·by_cases hp : (namesL ys).Nodup
  ·rw [decide_eq_true ho, decide_eq_true hp]
   by_cases hnm : n = m
   ·subst hnm
    have hd0 : ((n : Int) != (n : Int)) = false := by simp
    go_wp2_with fail
    subst hLA
    have HQE : Hid ((∀ j, j < n → (sortL (namesL xs)).getD j ⟨#[]⟩ = (sortL (namesL ys)).getD j ⟨#[]⟩) → Aligns xs ys) := hid (fun h => ⟨ho, hp, HEQ.out.1 (by
     apply List.ext_getElem (by rw [HLX.out, HLY.out, HNX.out, HNY.out])
     intro i h1 h2
     have := h i (by rw [HLX.out, HNX.out] at h1; exact h1)
     simpa [List.getD, h1, h2] using this)⟩)
    have HQN : Hid (∀ j, j < n → (sortL (namesL xs)).getD j ⟨#[]⟩ ≠ (sortL (namesL ys)).getD j ⟨#[]⟩ → ¬ Aligns xs ys) := hid (fun j _ h ha => h (by rw [HEQ.out.2 ha.2.2]))
    generalize sortL (namesL xs) = X at *
    generalize sortL (namesL ys) = Y at *
    go_loopg [42] n (fun N i wr => ∃ q : Nat, q + N = n ∧ i = .int .i64 (q : Int) ∧ wr = w2 ∧ Hid (∀ j, j < q → X.getD j ⟨#[]⟩ = Y.getD j ⟨#[]⟩))
    case atStart => exact ⟨0, by omega, rfl, rfl, hid (fun j h => absurd h (by omega))⟩
    case round =>
     obtain ⟨q, hq, rfl, rfl, HSO⟩ := hrel
     by_cases hp1 : 0 < gk
     ·obtain ⟨bx, ox, rfl, hbx, hcx⟩ := HRX.out (by omega)
      obtain ⟨by', oy, rfl, hby, hcy⟩ := HRY.out (by omega)
      have k0 := hcx q (by omega)
      have k1 := hcy q (by omega)
      unfold strF at k0 k1
      have HNO := hid (HQN.out q (by omega))
      have HSO2 : Hid (X.getD q ⟨#[]⟩ = Y.getD q ⟨#[]⟩ → ∀ j, j < q + 1 → X.getD j ⟨#[]⟩ = Y.getD j ⟨#[]⟩) := hid (fun h j hj => by
       by_cases e : j = q
       ·subst e; exact h
       ·exact HSO.out j (by omega))
      clear hcx hcy
      generalize X.getD q ⟨#[]⟩ = s at *
      generalize Y.getD q ⟨#[]⟩ = t at *
      by_cases hst : s = t
      ·subst hst
       have hbe : (s.toList == s.toList) = true := by simp
       go_wp2_with fail
       go_roundg (gk - 1)
       case rel => exact ⟨q + 1, by omega, by go_num, rfl, hid (HSO2.out (by simp))⟩
       case measure => omega
      ·have hbe : (s.toList == t.toList) = false := by
        cases h : (s.toList == t.toList) with
        | false => rfl
        | true => exact absurd (bytes_ext (eq_of_beq h)) hst
       have hbe2 : (t.toList == s.toList) = false := by
        cases h : (t.toList == s.toList) with
        | false => rfl
        | true => exact absurd (bytes_ext (eq_of_beq h)).symm hst
       go_wp2
       go_ret2
       exact ⟨HB2.out, .inl ⟨HNO.out hst, rfl⟩⟩
     ·obtain rfl : q = n := by omega
      have HA := hid (HQE.out HSO.out)
      have HANA := hid (HAN.out HA.out)
      have c2' := HX12.out.cell 2 rfl
      have HBB := hid (Below.refl wr.heap.size wr)
      clear HQE HQN HRX HRY HSO
      go_wp2_with fail
      clear c2'
      subst hLB
      obtain ⟨w3, rfl⟩ : ∃ w3, w3 = wr := ⟨wr, rfl⟩
      go_loopg [12, 57] q (fun N v i wr => ∃ (p : Nat) (R : List Nat), p + N = q ∧ i = .int .i64 (p : Int) ∧ Hid (R = (alignL xs ys).take p) ∧ Hid (Below w3.heap.size w3 wr ∧ wr.ownsRow w3.heap.size 3 1 v R.length (intsV R)))
      case atStart => exact ⟨0, [], by omega, rfl, hid rfl, hid ⟨HBB.out, World.ownsRow_nil _ _ _ _⟩⟩
      case round =>
       obtain ⟨p, cur, hpq, rfl, HCU, HST⟩ := hrel
       have hql : cur.length = p := by rw [HCU.out, List.length_take, HAL.out]; omega
       have HQL := hid hql
       clear hql
       by_cases hp2 : 0 < gk
       ·obtain ⟨b, o, rfl, hb, hcell⟩ := HR.out (by omega)
        have hb' : b < B := hb
        have hwz := HST.out.1.size
        have hwzr := HB2.out.size
        have HBW := hid (HB2.out.trans (HST.out.1.mono HB2.out.size))
        have k0 : wr.cell? ⟨b, o + p * 2, none⟩ = some (.string (xs.getD p Co.z).name) := (HBW.out.cell (p := ⟨b, o + p * 2, none⟩) (by show b < _; omega)).trans (hcell p (by omega) 0 (by omega))
        have k1 : wr.cell? ⟨b, o + p * 2 + 1, none⟩ = some (cv p) := (HBW.out.cell (p := ⟨b, o + p * 2 + 1, none⟩) (by show b < _; omega)).trans (hcell p (by omega) 1 (by omega))
        obtain ⟨ka, kn, kc, hke⟩ := HKD.out p (by omega)
        rw [hke] at k1
        clear hke hcell
        have HS1 := hid (HAS.out p (by omega))
        have HNQ := hid (HANA.out p (by omega))
        rw [← HCU.out] at HS1
        generalize (xs.getD p Co.z).name = s at *
        generalize idxN ys s = k at *
        have HCX := hid (BoxN.new wr #[.string s, .slice ka kn kc] 30)
        have HBA := hid (HST.out.1.alloc hwz (.cells #[.string s, .slice ka kn kc] 30))
        have HOA := hid (HST.out.2.alloc (.cells #[.string s, .slice ka kn kc] 30))
        have hxa := (HX22.out.below HST.out.1 HX22.out.lt).alloc (.cells #[.string s, .slice ka kn kc] 30)
        have x2 := hxa.cell 2 rfl
        have hza : (wr.alloc (.cells #[.string s, .slice ka kn kc] 30)).heap.size = wr.heap.size + 1 := by simp
        clear hxa
        obtain ⟨ko, rfl⟩ : ∃ ko, ko = gk := ⟨gk, rfl⟩
        go_wp2_with fail
        clear x2 k0 k1
        generalize wr.alloc (.cells #[.string s, .slice ka kn kc] 30) = W4 at *
        generalize hcb : wr.heap.size = cb at *
        rw [show decide (p < q) = true from decide_eq_true (by omega)]
        go_loopg [12, 64] q (fun N v i wr => ∃ (j : Nat) (R : List Nat), j + N = q ∧ i = .int .i64 (j : Int) ∧ Hid (R = if k < j then cur ++ [k] else cur) ∧ Hid (Below w3.heap.size w3 wr ∧ wr.ownsRow w3.heap.size 3 1 v R.length (intsV R) ∧ BoxN wr cb 30 #[.string s, .slice ka kn kc]))
        case atStart => exact ⟨0, cur, by omega, rfl, hid (by rw [if_neg (by omega)]), hid ⟨HBA.out, HOA.out, HCX.out⟩⟩
        case round =>
         obtain ⟨j, R, hj, rfl, HRJ, HSI⟩ := hrel
         by_cases hp3 : 0 < gk
         ·obtain ⟨b2, o2, rfl, hb2, hcell2⟩ := HRU.out (by omega)
          have hb2' : b2 < B := hb2
          have hvz := HSI.out.1.size
          have HBV := hid (HB2.out.trans (HSI.out.1.mono HB2.out.size))
          have l0 : wr.cell? ⟨b2, o2 + j * 2, none⟩ = some (.string (ys.getD j Co.z).name) := (HBV.out.cell (p := ⟨b2, o2 + j * 2, none⟩) (by show b2 < _; omega)).trans (hcell2 j (by omega) 0 (by omega))
          have l1 : wr.cell? ⟨b2, o2 + j * 2 + 1, none⟩ = some (cu j) := (HBV.out.cell (p := ⟨b2, o2 + j * 2 + 1, none⟩) (by show b2 < _; omega)).trans (hcell2 j (by omega) 1 (by omega))
          obtain ⟨ua, un, uc, hue⟩ := HKU.out j (by omega)
          rw [hue] at l1
          clear hue hcell2
          have HNE := hid (HNQ.out.2 j (by omega))
          have HRJ2 : Hid (j ≠ k → R = if k < j + 1 then cur ++ [k] else cur) := hid (fun h => by
           rw [HRJ.out]
           by_cases e : k < j
           ·rw [if_pos e, if_pos (by omega)]
           ·rw [if_neg e, if_neg (by omega)])
          have HRJ3 : Hid (j = k → R ++ [j] = if k < j + 1 then cur ++ [k] else cur) := hid (fun h => by
           rw [HRJ.out, if_neg (by omega), if_pos (by omega), h])
          have hRl : R.length ≤ p + 1 := by
           rw [HRJ.out]
           have := HQL.out
           split <;> simp <;> omega
          generalize (ys.getD j Co.z).name = t at *
          have hcx := HSI.out.2.2.alloc (.cells #[.string t, .slice ua un uc] 30)
          have e0 := hcx.cell 0 rfl
          have HCXA := hid hcx
          have HBVA := hid (HSI.out.1.alloc hvz (.cells #[.string t, .slice ua un uc] 30))
          have HOVA := hid (HSI.out.2.1.alloc (.cells #[.string t, .slice ua un uc] 30))
          have hzv : (wr.alloc (.cells #[.string t, .slice ua un uc] 30)).heap.size = wr.heap.size + 1 := by simp
          clear hcx
          obtain ⟨a3, c3, rfl⟩ := own_slice HSI.out.2.1
          by_cases e : t = s
          ·have hbe : (t.toList == s.toList) = true := by rw [e]; simp
           have HJK := hid (HRJ3.out (HNE.out.1 e))
           have HIV : Hid (intsV R ++ [.int .i64 (j : Int)] = intsV (R ++ [j])) := hid (by simp [intsV])
           have HLV : Hid (R.length + 1 = (R ++ [j]).length) := hid (by simp)
           generalize R.length = rl at *
           generalize intsV R = rv at *
           clear e
           go_wp2_with (at_builtin; refine wpList_append_form _ rfl _ _ 25 25 rfl w3.heap.size 3 3 i0 (.int .i64 0) 1 8 Tryz.underlying25 Tryz.underlying25 hi0 hz0 hz1 hz2 rfl (by decide) (.slice a3 rl c3) rl rv rfl (HOVA.out.alloc _) (some ⟨_, 0, none⟩) 1 1 [.int .i64 (j : Int)] rfl rfl (fun _ => ⟨_, rfl, cell_one_at _ _ (by simp)⟩) (by intro u hu; simp at hu; subst hu; rfl) (by omega) (by unfold maxLen; omega) (by omega) (by simp; omega) ?_; intro p9 cap9 w9 hown9 hg9 hat9 hlt9; have HOWN9 := hid hown9; have HG9 := hid ((World.grownBy_alloc _ _ _).trans hg9); have HAT9 := hid hat9; clear hown9 hg9 hat9)
           have HB9 := hid (HBVA.out.grown HG9.out (Nat.le_trans hvz (by omega)) (fun k hk => (HOVA.out.lt k hk).1))
           have HCX9 := hid (HCXA.out.grown HG9.out (Ne.symm (own_neC HOVA.out HCXA.out (by decide))))
           go_roundg (gk - 1)
           case rel => exact ⟨j + 1, R ++ [j], by omega, by go_num, HJK, hid ⟨HB9.out, by have := HOWN9.out; rw [HIV.out] at this; rw [← HLV.out]; exact this, HCX9.out⟩⟩
           case measure => omega
          ·have hbe : (t.toList == s.toList) = false := by
            cases h : (t.toList == s.toList) with
            | false => rfl
            | true => exact absurd (bytes_ext (eq_of_beq h)) e
           have HJK := hid (HRJ2.out (fun h => e (HNE.out.2 h)))
           clear e
           go_wp2
           go_roundg (gk - 1)
           case rel => exact ⟨j + 1, R, by omega, by go_num, HJK, hid ⟨HBVA.out, HOVA.out, HCXA.out⟩⟩
           case measure => omega
         ·obtain rfl : j = q := by omega
          have HE : Hid (R = cur ++ [k]) := hid (by rw [HRJ.out, if_pos HNQ.out.1])
          go_wp2
          go_roundg (ko - 1)
          case rel => exact ⟨p + 1, R, by omega, by go_num, hid (by rw [HE.out, HS1.out]), hid ⟨HSI.out.1, HSI.out.2.1⟩⟩
          case measure => omega
       ·obtain rfl : p = q := by omega
        have HTA : Hid (cur = alignL xs ys) := hid (by rw [HCU.out, ← HAL.out, List.take_length])
        obtain ⟨a3, c3, rfl⟩ := own_slice HST.out.2
        have HO := hid HST.out.2
        have HB5 := hid (HB2.out.trans (HST.out.1.mono HB2.out.size))
        rw [HQL.out] at HO ⊢
        rw [HTA.out] at HO
        go_wp2
        go_ret2
        exact ⟨HB5.out, .inr ⟨HA.out, a3, c3, rfl, own_base HO.out HB2.out.size⟩⟩
   ·have hd0 : ((n : Int) != (m : Int)) = true := by simp; omega
    have ha : ¬ Aligns xs ys := fun h => hnm (by have := h.len; rw [HN.out, HM.out] at this; exact this)
    go_wp2
    go_ret2
    exact ⟨HB2.out, .inl ⟨ha, rfl⟩⟩
  ·have ha : ¬ Aligns xs ys := fun h => hp h.2.1
   rw [decide_eq_true ho, decide_eq_false hp]
   go_wp2
   go_ret2
   exact ⟨HB2.out, .inl ⟨ha, rfl⟩⟩
 ·have ha : ¬ Aligns xs ys := fun h => ho h.1
  rw [decide_eq_false ho]
  go_wp2
  go_ret2
  exact ⟨HB2.out, .inl ⟨ha, rfl⟩⟩
end Go.Proofs.YthblaeleogdfpaaGreatDoor

namespace Go.Proofs.YthblaeleogdfpaaGreatDoor
open Go.RowKit
theorem tabV_ofB {t : Ta} (h : tabB t = true) : TabV t := by
  unfold tabB at h
  simp only [Bool.and_eq_true, decide_eq_true_eq] at h
  obtain ⟨⟨h0, h1⟩, hn, hl, hc⟩ := h
  have hcol : ∀ x ∈ t.cols, fineB x.name = true ∧ rowsC t.cols ≤ 4096 ∧ x.cells.length = rowsC t.cols ∧ ∀ c ∈ x.cells, CellOk c := fun x hx => by
    have h2 := List.all_eq_true.1 hc x hx
    unfold colB at h2
    simp only [Bool.and_eq_true, decide_eq_true_eq] at h2
    refine ⟨h2.1, h2.2.1, h2.2.2.1, fun c hc => ?_⟩
    have h3 := List.all_eq_true.1 h2.2.2.2 c hc
    unfold cellB at h3
    rw [Bool.and_eq_true, Bool.or_eq_true] at h3
    refine ⟨fun hnl => ?_, fineB_text h3.1⟩
    rcases h3.2 with h4 | h4
    · rw [hnl] at h4; cases h4
    · exact of_decide_eq_true h4
  refine ⟨h0, h1, fineB_text hn, hl, ?_⟩
  by_cases hz : t.cols = []
  · exact ⟨0, by omega, fun x hx => by rw [hz] at hx; cases hx⟩
  · obtain ⟨y, ys, hy⟩ := List.exists_cons_of_ne_nil hz
    exact ⟨rowsC t.cols, (hcol y (by rw [hy]; simp)).2.1, fun x hx => ⟨fineB_text (hcol x hx).1, (hcol x hx).2.2.1, (hcol x hx).2.2.2⟩⟩
theorem cmpC_zero {a b : Cl} (ha : CellOk a) (hb : CellOk b) : cmpC a b = 0 ↔ a = b := by
  obtain ⟨an, s⟩ := a
  obtain ⟨bn, t⟩ := b
  have ha1 := ha.1
  have hb1 := hb.1
  simp only at ha1 hb1
  unfold cmpC
  cases an <;> cases bn
  · simp only [Bool.false_eq_true, false_and, if_false, and_false]
    by_cases e : s = t
    · subst e
      rw [if_neg (by rw [sl_irrefl]; simp), if_pos rfl]
      simp
    · constructor
      · intro h
        by_cases h2 : sl s t = true
        · rw [if_pos h2] at h; omega
        · rw [if_neg h2, if_neg e] at h; omega
      · intro h
        injection h with _ h2
        exact absurd h2 e
  · simp
  · simp
  · rw [ha1 rfl, hb1 rfl]
    simp
def eqAt (xs ys : List Co) (al : List Nat) (x y : Nat) : Bool := decide (rowAt xs (ownL xs) x = rowAt ys al y)
theorem ownR_at (xs : List Co) {x i : Nat} (hi : i < xs.length) : (rowAt xs (ownL xs) x).getD i Cl.z = cellAt xs i x := by
  simp [rowAt, ownL, List.getD, hi]
theorem row_at (ys : List Co) {al : List Nat} {y i : Nat} (hi : i < al.length) : (rowAt ys al y).getD i Cl.z = cellAt ys (al.getD i 0) y := by
  simp [rowAt, List.getD, hi]
theorem eqAt_no {xs ys : List Co} {al : List Nat} {x y i : Nat} (hl : al.length = xs.length) (hi : i < xs.length) (h : cellAt xs i x ≠ cellAt ys (al.getD i 0) y) : eqAt xs ys al x y = false := by
  refine decide_eq_false fun e => h ?_
  rw [← ownR_at xs hi, e, row_at ys (by omega)]
theorem eqAt_yes {xs ys : List Co} {al : List Nat} {x y : Nat} (hl : al.length = xs.length) (h : ∀ i, i < xs.length → cellAt xs i x = cellAt ys (al.getD i 0) y) : eqAt xs ys al x y = true := by
  refine decide_eq_true (row_ext (xs := ys) (al := al) (by rw [rowAt_len]; simp [ownL, hl]) (rowAt_len _ _ _) fun k hk => ?_)
  rw [ownR_at xs (by omega), row_at ys hk, h k (by omega)]
set_option maxRecDepth 100000 in
set_option maxHeartbeats 4000000 in
theorem ref36_equal (i1 i2 : Int) (n1 n2 : ByteArray) (v u lv : Value) (xs ys : List Co) (al : List Nat) (x y B : Nat) (w : World) (hv : RdCo w (· < B) v xs) (hu : RdCo w (· < B) u ys)
  (hl : InK 1 w (· < B) lv al.length (fun j _ => .int .i64 ((al.getD j 0 : Nat) : Int))) (hB : B ≤ w.heap.size) (hal : al.length = xs.length) (hk : ∀ i, i < xs.length → al.getD i 0 < ys.length)
  (hx : ∀ c ∈ xs, x < c.cells.length ∧ c.cells.length ≤ 1048576 ∧ ∀ d ∈ c.cells, CellOk d) (hy : ∀ c ∈ ys, y < c.cells.length ∧ c.cells.length ≤ 1048576 ∧ ∀ d ∈ c.cells, CellOk d)
  (hyl : ys.length ≤ 1048576) (hx2 : x < 1048576) (hy2 : y < 1048576) :
  Calls Tryz.prog 58 #[.agg #[.int .i64 i1, .string n1, v], .agg #[.int .i64 i2, .string n2, u], lv, .int .i64 (x : Int), .int .i64 (y : Int)] w (Ret w (.bool (eqAt xs ys al x y))) := by
 have HNO := hid (fun i (hi : i < xs.length) => @eqAt_no xs ys al x y i hal hi)
 have HYES := hid (fun h => @eqAt_yes xs ys al x y hal h)
 have HXC := hid (fun i (hi : i < xs.length) => hx _ (getD_mem hi Co.z))
 have HYC := hid (fun i (hi : i < ys.length) => hy _ (getD_mem hi Co.z))
 have HK := hid hk
 rw [hal] at hl
 obtain ⟨cv, ⟨a, c, rfl, hc, hm, hr⟩, hcl⟩ := hv
 obtain ⟨cu, ⟨a2, c2, rfl, hc2, hm2, hr2⟩, hcl2⟩ := hu
 obtain ⟨a3, c3, rfl, hc3, hm3, hr3⟩ := hl
 have HR := hid hr
 have HR2 := hid hr2
 have HR3 := hid hr3
 have HC := hid hcl
 have HC2 := hid hcl2
 generalize eqAt xs ys al x y = R at *
 clear hr hr2 hr3 hcl hcl2 hal hk hx hy
 generalize xs.length = n at *
 generalize ys.length = m at *
 unfold maxLen at hm hm2 hm3
 have HX1 := hid ((BoxN.new w #[.int .i64 i1, .string n1, .slice a n c] 24).alloc (.cells #[.int .i64 i2, .string n2, .slice a2 m c2] 24))
 have hx2' := BoxN.new (w.alloc (.cells #[.int .i64 i1, .string n1, .slice a n c] 24)) #[.int .i64 i2, .string n2, .slice a2 m c2] 24
 rw [World.size_alloc] at hx2'
 have HX2 := hid hx2'
 have HB0 : Hid (Below w.heap.size w ((w.alloc (.cells #[.int .i64 i1, .string n1, .slice a n c] 24)).alloc (.cells #[.int .i64 i2, .string n2, .slice a2 m c2] 24))) := hid (((Below.refl _ w).alloc (Nat.le_refl _) _).alloc (by simp) _)
 have hz0 : ((w.alloc (.cells #[.int .i64 i1, .string n1, .slice a n c] 24)).alloc (.cells #[.int .i64 i2, .string n2, .slice a2 m c2] 24)).heap.size = w.heap.size + 2 := by simp
 clear hx2'
 go_enter Tryz.func58, Tryz.ntmps58
 generalize hLA : Code.loop _ = LA
 go_wp2_with fail
 generalize (w.alloc (.cells #[.int .i64 i1, .string n1, .slice a n c] 24)).alloc (.cells #[.int .i64 i2, .string n2, .slice a2 m c2] 24) = W0 at *
 subst hLA
 go_loopg [15] n (fun N i wr => ∃ q : Nat, q + N = n ∧ i = .int .i64 (q : Int) ∧ Hid (Below W0.heap.size W0 wr) ∧ Hid (∀ j, j < q → cellAt xs j x = cellAt ys (al.getD j 0) y))
 case atStart => exact ⟨0, by omega, rfl, hid (Below.refl _ _), hid (fun j h => absurd h (by omega))⟩
 case round =>
  obtain ⟨q, hq, rfl, HB, HALL⟩ := hrel
  have hwz := HB.out.size
  by_cases hp : 0 < gk
  ·have hqn : q < n := by omega
   have HBW := hid (HB0.out.trans (HB.out.mono (by omega)))
   obtain ⟨b, o, rfl, hb, hcell⟩ := HR.out (by omega)
   obtain ⟨b3, o3, rfl, hb3, hcell3⟩ := HR3.out (by omega)
   have hkq := HK.out q hqn
   obtain ⟨b2, o2, rfl, hb2, hcell2⟩ := HR2.out (by omega)
   have hbw : b < B := hb
   have hbw2 : b2 < B := hb2
   have hbw3 : b3 < B := hb3
   have k0 : wr.cell? ⟨b, o + q * 2, none⟩ = some (.string (xs.getD q Co.z).name) := (HBW.out.cell (p := ⟨b, o + q * 2, none⟩) (by show b < w.heap.size; omega)).trans (hcell q (by omega) 0 (by omega))
   have k1 : wr.cell? ⟨b, o + q * 2 + 1, none⟩ = some (cv q) := (HBW.out.cell (p := ⟨b, o + q * 2 + 1, none⟩) (by show b < w.heap.size; omega)).trans (hcell q (by omega) 1 (by omega))
   have r0 : wr.cell? ⟨b3, o3 + q, none⟩ = some (.int .i64 ((al.getD q 0 : Nat) : Int)) := (HBW.out.cell (p := ⟨b3, o3 + q, none⟩) (by show b3 < w.heap.size; omega)).trans (by have := hcell3 q (by omega) 0 (by omega); simpa using this)
   have HEQ1 := hid (HNO.out q hqn)
   have HALL2 : Hid (cellAt xs q x = cellAt ys (al.getD q 0) y → ∀ j, j < q + 1 → cellAt xs j x = cellAt ys (al.getD j 0) y) := hid (fun h j hj => by
    rcases Nat.lt_or_ge j q with h3 | h3
    ·exact HALL.out j h3
    ·obtain rfl : j = q := by omega
     exact h)
   generalize al.getD q 0 = k at *
   have l1 : wr.cell? ⟨b2, o2 + k * 2 + 1, none⟩ = some (cu k) := (HBW.out.cell (p := ⟨b2, o2 + k * 2 + 1, none⟩) (by show b2 < w.heap.size; omega)).trans (hcell2 k hkq 1 (by omega))
   obtain ⟨ca, ck, hcq, hck1, hck2, hcc⟩ := HC.out q hqn
   obtain ⟨ca2, ck2, hcq2, hck3, hck4, hcc2⟩ := HC2.out k hkq
   have hxl := (HXC.out q hqn).1
   have hyl' := (HYC.out k hkq).1
   have hc1 := (HXC.out q hqn).2.2 _ (getD_mem hxl Cl.z)
   have hd1 := (HYC.out k hkq).2.2 _ (getD_mem hyl' Cl.z)
   obtain ⟨b4, o4, rfl, hb4, hcell4⟩ := hcc (by omega)
   obtain ⟨b5, o5, rfl, hb5, hcell5⟩ := hcc2 (by omega)
   have hbw4 : b4 < B := hb4
   have hbw5 : b5 < B := hb5
   have e0 : wr.cell? ⟨b4, o4 + x * 2, none⟩ = some (.bool (cellAt xs q x).null) := (HBW.out.cell (p := ⟨b4, o4 + x * 2, none⟩) (by show b4 < w.heap.size; omega)).trans (hcell4 x hxl 0 (by omega))
   have e1 : wr.cell? ⟨b4, o4 + x * 2 + 1, none⟩ = some (.string (cellAt xs q x).text) := (HBW.out.cell (p := ⟨b4, o4 + x * 2 + 1, none⟩) (by show b4 < w.heap.size; omega)).trans (hcell4 x hxl 1 (by omega))
   have e2 : wr.cell? ⟨b5, o5 + y * 2, none⟩ = some (.bool (cellAt ys k y).null) := (HBW.out.cell (p := ⟨b5, o5 + y * 2, none⟩) (by show b5 < w.heap.size; omega)).trans (hcell5 y hyl' 0 (by omega))
   have e3 : wr.cell? ⟨b5, o5 + y * 2 + 1, none⟩ = some (.string (cellAt ys k y).text) := (HBW.out.cell (p := ⟨b5, o5 + y * 2 + 1, none⟩) (by show b5 < w.heap.size; omega)).trans (hcell5 y hyl' 1 (by omega))
   have hz := cmpC_zero (a := cellAt xs q x) (b := cellAt ys k y) hc1 hd1
   rw [hcq] at k1
   rw [hcq2] at l1
   generalize cellAt xs q x = ce at *
   generalize cellAt ys k y = de at *
   have HZ := hid hz
   have hx10 : wr.cell? ⟨w.heap.size, 2, none⟩ = some (.slice (some ⟨b, o, none⟩) n c) := (HX1.out.below HB.out HX1.out.lt).cell 2 rfl
   have hx20 : wr.cell? ⟨w.heap.size + 1, 2, none⟩ = some (.slice (some ⟨b2, o2, none⟩) m c2) := (HX2.out.below HB.out HX2.out.lt).cell 2 rfl
   have HCALL := hid (fun p : LaterOf wr => later_call p (ref_CompareCells ce de p.W))
   generalize cmpC ce de = r at *
   have hl1 := (HXC.out q hqn).2.1
   have hl2 := (HYC.out k hkq).2.1
   generalize (xs.getD q Co.z).cells.length = l1 at *
   generalize (ys.getD k Co.z).cells.length = l2 at *
   clear hz hc1 hd1 hcell hcell2 hcell3 hcell4 hcell5 hcc hcc2 hcq hcq2 k0
   go_wp2_with fail
   have f1 := fun p : LaterOf wr => p.cell k1
   have f2 := fun p : LaterOf wr => p.cell l1
   have f3 := fun p : LaterOf wr => p.cell e0
   have f4 := fun p : LaterOf wr => p.cell e1
   have f5 := fun p : LaterOf wr => p.cell e2
   have f6 := fun p : LaterOf wr => p.cell e3
   have f7 := fun p : LaterOf wr => p.cell hx10
   have f8 := fun p : LaterOf wr => p.cell hx20
   clear k1 l1 e0 e1 e2 e3 hx10 hx20 r0
   by_cases hr0 : r = 0
   ·have HE := hid (HALL2.out (HZ.out.1 hr0))
    subst hr0
    refine wp_region_later (by kernel_rfl) (by kernel_rfl) ?_
    repeat (first | go_big_quiet_step ((go_at_call 106; exact HCALL.out _)) | quiet_step ((go_at_call 106; exact HCALL.out _)))
    refine wpQuiet_nil ?_
    intro _ hw'
    obtain ⟨p5, rfl⟩ := hw'
    have HB5 := hid (HB.out.trans (p5.hb.mono hwz))
    generalize p5.W = w5 at *
    clear f1 f2 f3 f4 f5 f6 f7 f8 HCALL
    go_wp2
    go_roundg (gk - 1)
    case rel => exact ⟨q + 1, by omega, by go_num, HB5, HE⟩
    case measure => omega
   ·have hR : R = false := HEQ1.out (fun h => hr0 (HZ.out.2 h))
    have hd : (r != 0) = true := by simpa using hr0
    subst hR
    clear hr0
    refine wp_region_later (by kernel_rfl) (by kernel_rfl) ?_
    repeat (first | go_big_quiet_step ((go_at_call 106; exact HCALL.out _)) | quiet_step ((go_at_call 106; exact HCALL.out _)))
    refine wpQuiet_nil ?_
    intro _ hw'
    obtain ⟨p5, rfl⟩ := hw'
    have HB5 := hid (HBW.out.trans (p5.hb.mono (Nat.le_trans HB0.out.size hwz)))
    generalize p5.W = w5 at *
    clear f1 f2 f3 f4 f5 f6 f7 f8 HCALL
    go_wp2
    go_ret
    exact ⟨rfl, HB5.out⟩
  ·obtain rfl : q = n := by omega
   have hR : R = true := HYES.out HALL.out
   subst hR
   have HBE := hid (HB0.out.trans (HB.out.mono (by omega)))
   go_wp2
   go_ret
   exact ⟨rfl, HBE.out⟩
end Go.Proofs.YthblaeleogdfpaaGreatDoor
