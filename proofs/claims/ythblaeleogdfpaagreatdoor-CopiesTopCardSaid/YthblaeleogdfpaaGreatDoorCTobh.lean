/- Contract of the reference's Names (chapter 36), at any columns. -/
import Derived.Test.YthblaeleogdfpaaGreatDoorCTobg
import Derived.Test.YthblaeleogdfpaaGreatDoorCToax
set_option linter.unusedVariables false
set_option linter.unusedSimpArgs false
namespace Go.Proofs.YthblaeleogdfpaaGreatDoor
open Go.RowKit
def sv (l : List ByteArray) : List Value := l.map Value.string
theorem sv_len (l : List ByteArray) : (sv l).length = l.length := by simp [sv]
theorem sv_at {l : List ByteArray} {i : Nat} (h : i < l.length) : (sv l)[i]? = some (strF l i) := by simp [sv, strF, List.getD, h]
theorem sv_one (l : List ByteArray) : ∀ u ∈ sv l, u.oneCell' = true := fun u hu => by
 obtain ⟨x, -, rfl⟩ := List.mem_map.1 hu
 rfl
theorem sv_split (a b : List ByteArray) (r : ByteArray) : sv (a ++ r :: b) = sv a ++ [.string r] ++ sv b := by simp [sv]
theorem strF_take {l : List ByteArray} {k i : Nat} (h : i < k) : strF l i = strF (l.take k) i := by simp [strF, List.getD, List.getElem?_take, h]
theorem dropS_at {w : World} {g q k j : Nat} {out : List ByteArray} {u : Value} (hc : ∀ i, i < q → w.cell? ⟨g, i, none⟩ = some (strF out i)) (hl : out.length = q) (hu : (sv (out.drop k))[j]? = some u) : w.cell? ⟨g, k + j, none⟩ = some u := by
 have hj : j < (out.drop k).length := by have := (List.getElem?_eq_some_iff.1 hu).1; rw [sv_len] at this; exact this
 rw [sv_at hj] at hu
 obtain rfl := Option.some.inj hu
 rw [List.length_drop] at hj
 rw [hc (k + j) (by omega)]
 simp [strF, List.getD]
theorem step_append_strs {w : World} {ops : Array Oper} {o : Oper} {a : Act} {K : Act → World → Prop} {Q : Exit → Act → World → Prop} {E : Prop} (hgd : o.guard = none) (s x : Operand)
  (ho : o.op = .call { callee := .builtin .append, args := #[s, x], argTypes := #[37, 37] }) (hs : a.eval s = .slice none 0 0) {ao : Option Addr} {n c : Nat} (hx : a.eval x = .slice ao n c) (l : List ByteArray) (hn : n = l.length) (hl : n ≤ 1048576)
  (hr : 0 < n → ∃ b o, ao = some ⟨b, o, none⟩ ∧ ∀ i, i < n → w.cell? ⟨b, o + i, none⟩ = some (strF l i))
  (h : ∀ ua uc w', w'.ownsRow w.heap.size 9 1 (.slice ua n uc) n (sv l) → Below w.heap.size w w' → K (a.put o.dst (.slice ua n uc)) w') : if Region.wanted o (yielded ops a.tmps) = true then Oper.wp Tryz.prog o a w K Q else E := by
 obtain ⟨i0, hi, hz0, hz1, hz2⟩ := info_parts info_str
 by_cases h0 : n = 0
 ·subst h0
  refine step_append_zero0 hgd s x 37 37 ho 9 9 i0 Tryz.underlying37 Tryz.underlying37 hi none 0 0 hs (Nat.le_refl _) ao 0 c rfl hx (h none 0 w ?_ (Below.refl _ _))
  rw [List.eq_nil_of_length_eq_zero hn.symm]
  exact World.ownsRow_nil _ _ _ _
 ·obtain ⟨b, o', rfl, hcell⟩ := hr (by omega)
  subst hn
  refine step_append_form w hgd s x 37 37 ho w.heap.size 9 9 i0 (.string ⟨#[]⟩) 1 16 Tryz.underlying37 Tryz.underlying37 hi hz0 hz1 hz2 rfl (by decide) (.slice none 0 0) 0 [] hs (World.ownsRow_nil _ _ _ _) (some ⟨b, o', none⟩) l.length c (sv l) hx (by rw [sv_len, Nat.mul_one]) (fun _ => ⟨_, rfl, fun j u hu => ?_⟩) (sv_one l) (by omega) (by unfold maxLen; omega) (by omega) (Nat.le_refl _) ?_
  ·have hj : j < l.length := by have := (List.getElem?_eq_some_iff.1 hu).1; rw [sv_len] at this; exact this
   rw [sv_at hj] at hu
   obtain rfl := Option.some.inj hu
   rw [Addr.add_lit]
   exact hcell j hj
  ·intro g cap w' hown hg hat hlt
   simp only [Nat.zero_add, List.nil_append] at hown ⊢
   exact h _ _ _ hown ⟨hg.os, hg.tape, hg.output, hg.size, fun k hk => hg.block k hk (fun e => by cases e)⟩
structure NmSt (w W : World) (v : Value) (N out : List ByteArray) (q : Nat) : Prop where
  bel : Below w.heap.size w W
  own : W.ownsRow w.heap.size 9 1 v q (sv out)
  len : out.length = q
  nil : q = 0 → v = .slice none 0 0
  weak : Weak out
  perm : out.Perm (N.take q)
def NamesRP (w : World) (N : List ByteArray) (e : Ending) (w' : World) : Prop :=
  ∃ a c, e = .returned (.tuple #[.slice a N.length c, .bool (decide N.Nodup)]) ∧ RdS w' w'.heap.size (.slice a N.length c) (sortL N) ∧ Below w.heap.size w w'
set_option maxRecDepth 100000 in
set_option maxHeartbeats 8000000 in
theorem ref36_Names (id : Int) (nm : ByteArray) (v : Value) (xs : List Co) (B : Nat) (w : World) (hv : RdCo w (· < B) v xs) (hB : B ≤ w.heap.size) (hl : xs.length ≤ 1048576) :
  Calls Tryz.prog 13 #[.agg #[.int .i64 id, .string nm, v]] w (NamesRP w (namesL xs)) := by
 obtain ⟨cv, ⟨a, c, rfl, hc, hm, hr⟩, hkid⟩ := hv
 have HKD : Hid (∀ q, q < xs.length → ∃ a k m, cv q = .slice a k m) := hid (fun q hq => by
  obtain ⟨a, c, e, -⟩ := hkid q hq
  exact ⟨a, _, c, e⟩)
 clear hkid
 obtain ⟨i0, hi, hz0, hz1, hz2⟩ := info_parts info_str
 have HR := hid hr
 have HNS := hid (fun q (h : q < xs.length) => names_succ h)
 have HNL : Hid ((namesL xs).length = xs.length) := hid (by simp [namesL])
 have HXW := hid (BoxN.new w #[.int .i64 id, .string nm, .slice a xs.length c] 24)
 have HB0 : Hid (Below w.heap.size w (w.alloc (.cells #[.int .i64 id, .string nm, .slice a xs.length c] 24))) := hid ((Below.refl _ _).alloc (Nat.le_refl _) _)
 have hz : (w.alloc (.cells #[.int .i64 id, .string nm, .slice a xs.length c] 24)).heap.size = w.heap.size + 1 := by simp
 clear hr
 generalize hn : xs.length = n at *
 have HN := hid hn
 clear hn
 unfold maxLen at hm
 have c2 := HXW.out.cell 2 rfl
 go_enter Tryz.func13, Tryz.ntmps13
 generalize hLA : Code.loop _ = LA
 generalize hLC : Code.loop _ = LC
 go_wp2_with fail
 clear c2
 generalize w.alloc (.cells #[.int .i64 id, .string nm, .slice a n c] 24) = W0 at *
 subst hLA
 go_loopg [4, 12] n (fun N v i wr => ∃ (q : Nat) (out : List ByteArray), q + N = n ∧ i = .int .i64 (q : Int) ∧ Hid (NmSt w wr v (namesL xs) out q))
 case atStart => exact ⟨0, [], by omega, rfl, hid ⟨HB0.out, World.ownsRow_nil _ _ _ _, rfl, fun _ => rfl, List.Pairwise.nil, by rw [List.take_zero]⟩⟩
 case round =>
  obtain ⟨q, out, hq, rfl, HST⟩ := hrel
  have hwr := HST.out.bel.size
  obtain ⟨ya, yc, rfl⟩ := own_slice HST.out.own
  obtain ⟨hqc, hqm⟩ := own_capsA HST.out.own
  have HOWN := hid HST.out.own
  have HOL := hid HST.out.len
  unfold maxLen at hqm
  by_cases hp : 0 < gk
  ·obtain ⟨b, o, rfl, hb, hcell⟩ := HR.out (by omega)
   have hb' : b < B := hb
   have k0 : wr.cell? ⟨b, o + q * 2, none⟩ = some (.string (xs.getD q Co.z).name) := (HST.out.bel.cell (p := ⟨b, o + q * 2, none⟩) (by show b < _; omega)).trans (hcell q (by omega) 0 (by omega))
   have k1 : wr.cell? ⟨b, o + q * 2 + 1, none⟩ = some (cv q) := (HST.out.bel.cell (p := ⟨b, o + q * 2 + 1, none⟩) (by show b < _; omega)).trans (hcell q (by omega) 1 (by omega))
   have HS1 := hid (HNS.out q (by omega))
   clear hcell
   obtain ⟨ka, kn, kc, hke⟩ := HKD.out q (by omega)
   rw [hke] at k1
   clear hke
   generalize (xs.getD q Co.z).name = s at *
   have HSTA := hid (HST.out.bel.alloc hwr (.cells #[.string s, .slice ka kn kc] 30))
   have HOWA := hid (HOWN.out.alloc (.cells #[.string s, .slice ka kn kc] 30))
   have HCX := hid (BoxN.new wr #[.string s, .slice ka kn kc] 30)
   have hza : (wr.alloc (.cells #[.string s, .slice ka kn kc] 30)).heap.size = wr.heap.size + 1 := by simp
   go_upto_block 2 with fail
   generalize hW1 : wr.alloc (.cells #[.string s, .slice ka kn kc] 30) = W1 at *
   clear k0 k1 hW1
   have hcb : wr.heap.size < W1.heap.size := by omega
   go_cut [7] from 18 to 31 (fun s7 wx => ∃ i : Nat, s7 = .int .i64 (i : Int) ∧ i ≤ q ∧ Hid (∀ j, i ≤ j → j < q → sl s (out.getD j ⟨#[]⟩) = true) ∧ Hid (0 < i → sl s (out.getD (i - 1) ⟨#[]⟩) = false) ∧ ∃ m, wx = W1.drewN m)
   case first =>
    obtain ⟨ko, rfl⟩ : ∃ ko, ko = gk := ⟨gk, rfl⟩
    go_wp2_with fail
    go_loopg [7] (q + 1) (fun N j W => ∃ i : Nat, i + 1 = N ∧ i ≤ q ∧ j = .int .i64 (i : Int) ∧ Hid (∀ j, i ≤ j → j < q → sl s (out.getD j ⟨#[]⟩) = true) ∧ ∃ m, W = W1.drewN m)
    case atStart => exact ⟨q, rfl, Nat.le_refl _, rfl, hid (fun j h1 h2 => absurd h1 (by omega)), 0, rfl⟩
    case round =>
     obtain ⟨i, hi1, hiq, rfl, HUP, m, rfl⟩ := hrel
     have hHC := HCX.out.cell 0 rfl
     by_cases hi0 : i = 0
     ·subst hi0
      have hd : decide (((0 : Nat) : Int) > 0) = false := by simp
      have hd2 : decide ((0 : Int) < ((0 : Nat) : Int)) = false := by simp
      have hd3 : decide ((0 : Int) < 0) = false := by simp
      rw [show (((0 : Nat)) : Int) = 0 from rfl]
      go_wp2_with fail
      go_quiet (fail)
      go_wp2_with fail
      go_meet
      exact ⟨0, rfl, by omega, HUP, hid (fun h => absurd h (by omega)), _, (by first | rfl | exact World.drewN_drewN | (simp; rfl))⟩
     ·obtain ⟨j, rfl⟩ : ∃ j, i = j + 1 := ⟨i - 1, by omega⟩
      obtain ⟨g, cap, e3, hg, hgz⟩ := HOWA.out.form (by omega)
      obtain ⟨rfl, -, rfl⟩ := Value.slice.inj e3
      have hcj : W1.cell? ⟨g, j, none⟩ = some (.string (out.getD j ⟨#[]⟩)) := (HOWA.out.cellAt j (by omega)).trans (sv_at (by rw [HOL.out]; omega))
      have HJ : Hid (sl s (out.getD j ⟨#[]⟩) = true → ∀ i, j ≤ i → i < q → sl s (out.getD i ⟨#[]⟩) = true) := hid (fun h i h1 h2 => by
       by_cases e : i = j
       ·subst e; exact h
       ·exact HUP.out i (by omega) h2)
      have HJ2 : Hid (sl s (out.getD j ⟨#[]⟩) = false → 0 < j + 1 → sl s (out.getD (j + 1 - 1) ⟨#[]⟩) = false) := hid (fun h _ => by rw [Nat.add_sub_cancel]; exact h)
      clear e3
      generalize out.getD j ⟨#[]⟩ = y at *
      have hd : decide ((0 : Int) < (j : Int) + 1) = true := decide_eq_true (by omega)
      have hw1 : IntKind.i64.wrap ((j : Int) + 1 - 1) = (j : Int) := (IntWalk.i64_in _ (by omega)).trans (by omega)
      have hjq : (j : Int) < (q : Int) := by omega
      have hj0 : (0 : Int) ≤ (j : Int) := by omega
      have hjq2 : j < q := by omega
      rw [show (((j + 1 : Nat)) : Int) = (j : Int) + 1 from by omega]
      rcases sl_total s y with hsl | hsl | hsl
      ·have hbl : Op.bytesLess y.toList s.toList = false := sl_asymm hsl
       have hbe : (y.toList == s.toList) = false := by
        cases h : (y.toList == s.toList) with
        | false => rfl
        | true =>
         have e := bytes_ext (eq_of_beq h)
         rw [e, sl_irrefl] at hsl
         cases hsl
       go_wp2_with fail
       go_quiet (fail)
       go_wp2_with fail
       go_roundg (gk - 1)
       case rel => exact ⟨j, by omega, by omega, by go_num, hid (HJ.out hsl), _, (by first | rfl | exact World.drewN_drewN | (simp; rfl))⟩
       case measure => omega
      ·have HJ3 := hid (HJ2.out (by rw [hsl]; exact sl_irrefl y))
       subst hsl
       have hbl : Op.bytesLess s.toList s.toList = false := sl_irrefl s
       have hbe : (s.toList == s.toList) = true := by simp
       go_wp2_with fail
       go_quiet (fail)
       go_wp2_with fail
       go_meet
       exact ⟨j + 1, by go_num, by omega, HUP, HJ3, _, (by first | rfl | exact World.drewN_drewN | (simp; rfl))⟩
      ·have HJ3 := hid (HJ2.out (sl_asymm hsl))
       have hbl : Op.bytesLess y.toList s.toList = true := hsl
       go_wp2_with fail
       go_quiet (fail)
       go_wp2_with fail
       go_meet
       exact ⟨j + 1, by go_num, by omega, HUP, HJ3, _, (by first | rfl | exact World.drewN_drewN | (simp; rfl))⟩
   case rest =>
    obtain ⟨k, rfl, hkq', HUP, HLO, m, rfl⟩ := hcut
    have HPW := hid (putS_weak (l := out) (i := k) (s := s) HST.out.weak (by have := HOL.out; omega) (by rw [HOL.out]; exact HUP.out) HLO.out)
    have HPP : Hid ((putS out k s).Perm ((namesL xs).take (q + 1))) := hid (by rw [HS1.out]; exact (putS_perm out k s).trans (HST.out.perm.append_right _))
    have HPL := hid (putS_len (l := out) (i := k) (by have := HOL.out; omega) s)
    have HPE : Hid (putS out k s = out.take k ++ s :: out.drop k) := hid rfl
    have HTL : Hid ((out.take k).length = k) := hid (by rw [List.length_take]; have := HOL.out; omega)
    have HDL : Hid ((out.drop k).length = q - k) := hid (by rw [List.length_drop]; have := HOL.out; omega)
    have hkc : (k : Int) ≤ (yc : Int) := by omega
    have hkq : (k : Int) ≤ (q : Int) := by omega
    have HNIL := hid HST.out.nil
    clear HUP HLO
    have HBD : Hid (Below w.heap.size w (W1.drewN m).drew) := hid (by have h1 := HSTA.out; repeat' (first | (with_reducible exact Below.refl _ _) | (with_reducible assumption) | (with_reducible refine below_drewN ?_) | (with_reducible refine Below.alloc ?_ ?_ _) | (with_reducible refine Below.drew ?_) | (with_reducible refine Below.setCell ?_ ?_ _) | (with_reducible refine Below.trans ?_ (Below.mono (by with_reducible assumption) ?_)) | go_size))
    have hwd : w.heap.size ≤ (W1.drewN m).drew.heap.size := HBD.out.size
    have hSd : (W1.drewN m).drew.cell? ⟨wr.heap.size, 0, none⟩ = some (.string s) := HCX.out.cell 0 rfl
    have hcbd : wr.heap.size < (W1.drewN m).drew.heap.size := hcb
    have HOWC : Hid ((W1.drewN m).drew.ownsRow w.heap.size 9 1 (.slice ya q yc) q (sv out)) := HOWA
    clear HST HSTA HOWA HOWN HCX
    rcases Nat.eq_zero_or_pos q with hq0 | hq0
    ·subst hq0
     obtain rfl : k = 0 := by omega
     obtain ⟨rfl, -, rfl⟩ := Value.slice.inj (HNIL.out rfl)
     go_upto_region 8 with fail
     refine wp_region_before (st := 6) (T := fun _ => True) (S := fun w' => w'.cell? ⟨wr.heap.size, 0, none⟩ = some (.string s)) (by kernel_rfl) ?_
     generalize (W1.drewN m).drew = Wd at *
     refine tB (i := 0) (oi := ?o0_1) (v := ?v0_1) ?hi0_1 ?hq0_1 ?hy0_1 (fun _ => hSd) ?r0_1
     case hi0_1 => (simp only [List.getElem?_toArray, List.getElem?_cons_zero, List.getElem?_cons_succ]; exact rfl)
     case hq0_1 => exact fun _ _ _ h => h
     case hy0_1 =>
      refine Or.inl ⟨by rfl, fun w' hSw => ?_⟩
      (try dsimp only at hSw)
      (first | (go_simp; done) | (go_simp; with_reducible rfl))
     try simp only [Act.put, List.setIfInBounds_toArray, List.set]
     refine tB (i := 1) (oi := ?o1_2) (v := ?v1_2) ?hi1_2 ?hq1_2 ?hy1_2 (fun _ => hSd) ?r1_2
     case hi1_2 => (simp only [List.getElem?_toArray, List.getElem?_cons_zero, List.getElem?_cons_succ]; exact rfl)
     case hq1_2 => exact fun _ _ _ h => h
     case hy1_2 =>
      refine Or.inl ⟨by rfl, fun w' hSw => ?_⟩
      (try dsimp only at hSw)
      (first | (go_simp; done) | (go_simp; with_reducible rfl))
     try simp only [Act.put, List.setIfInBounds_toArray, List.set]
     refine tB (i := 2) (oi := ?o2_3) (v := ?v2_3) ?hi2_3 ?hq2_3 ?hy2_3 (fun _ => hSd) ?r2_3
     case hi2_3 => (simp only [List.getElem?_toArray, List.getElem?_cons_zero, List.getElem?_cons_succ]; exact rfl)
     case hq2_3 => exact fun _ _ _ h => h
     case hy2_3 =>
      refine Or.inl ⟨by rfl, fun w' hSw => ?_⟩
      (try dsimp only at hSw)
      (first | (go_simp; done) | (go_simp; with_reducible rfl))
     try simp only [Act.put, List.setIfInBounds_toArray, List.set]
     refine tB (i := 4) (oi := ?o4_4) (v := ?v4_4) ?hi4_4 ?hq4_4 ?hy4_4 (fun _ => hSd) ?r4_4
     case hi4_4 => (simp only [List.getElem?_toArray, List.getElem?_cons_zero, List.getElem?_cons_succ]; exact rfl)
     case hq4_4 => exact fun _ _ _ h => h
     case hy4_4 =>
      refine Or.inl ⟨by rfl, fun w' hSw => ?_⟩
      (try dsimp only at hSw)
      (first | (go_simp; done) | (go_simp; with_reducible rfl))
     try simp only [Act.put, List.setIfInBounds_toArray, List.set]
     refine tA (i := 5) (oi := ?o5_5) (v := ?v5_5) [6] ?hi5_5 ?hq5_5 ?hy5_5 hSd ?r5_5
     case hi5_5 => (simp only [List.getElem?_toArray, List.getElem?_cons_zero, List.getElem?_cons_succ]; exact rfl)
     case hq5_5 => exact fun _ _ _ h => h
     case hy5_5 =>
      refine Or.inl ⟨by rfl, fun w' hSw => ?_⟩
      (try dsimp only at hSw)
      (first | (go_simp; done) | (go_simp; with_reducible rfl))
     try simp only [Act.put, List.setIfInBounds_toArray, List.set]
     refine tB (i := 8) (oi := ?o8_6) (v := ?v8_6) ?hi8_6 ?hq8_6 ?hy8_6 (fun _ => hSd) ?r8_6
     case hi8_6 => (simp only [List.getElem?_toArray, List.getElem?_cons_zero, List.getElem?_cons_succ]; exact rfl)
     case hq8_6 => exact fun _ _ _ h => h
     case hy8_6 =>
      refine Or.inl ⟨by rfl, fun w' hSw => ?_⟩
      (try dsimp only at hSw)
      (first | (go_simp; done) | (go_simp; with_reducible rfl))
     try simp only [Act.put, List.setIfInBounds_toArray, List.set]
     refine tB (i := 9) (oi := ?o9_7) (v := ?v9_7) ?hi9_7 ?hq9_7 ?hy9_7 (fun _ => hSd) ?r9_7
     case hi9_7 => (simp only [List.getElem?_toArray, List.getElem?_cons_zero, List.getElem?_cons_succ]; exact rfl)
     case hq9_7 => exact fun _ _ _ h => h
     case hy9_7 =>
      refine Or.inl ⟨by rfl, fun w' hSw => ?_⟩
      (try dsimp only at hSw)
      (first | (go_simp; done) | (go_simp; with_reducible rfl))
     try simp only [Act.put, List.setIfInBounds_toArray, List.set]
     refine tB (i := 10) (oi := ?o10_8) (v := ?v10_8) ?hi10_8 ?hq10_8 ?hy10_8 (fun _ => hSd) ?r10_8
     case hi10_8 => (simp only [List.getElem?_toArray, List.getElem?_cons_zero, List.getElem?_cons_succ]; exact rfl)
     case hq10_8 => exact fun _ _ _ h => h
     case hy10_8 =>
      refine Or.inl ⟨by rfl, fun w' hSw => ?_⟩
      (try dsimp only at hSw)
      (first | (go_simp; done) | (go_simp; with_reducible rfl))
     try simp only [Act.put, List.setIfInBounds_toArray, List.set]
     refine wpAnyB_ready (rs := [3, 6]) (by kernel_rfl) (by simp) ?_
     refine AllReadyB.cons rfl (fun K hK => ?_) ?_
     ·refine step_append_strs rfl (.const (.slice none 0 0)) (.tmp 34) rfl rfl rfl (out.take 0) HTL.out.symm (by omega) (fun h => absurd h (by omega)) ?_
      intro u8 c8 w8 hown8 hb8
      have hw8 : w.heap.size ≤ w8.heap.size := Nat.le_trans hwd hb8.size
      have HO8 := hid (own_lower hown8 hwd)
      have HB8 := hid (HBD.out.trans (hb8.mono hwd))
      have hS8 := (hb8.cell (p := ⟨wr.heap.size, 0, none⟩) hcbd).trans hSd
      refine hK.out _ _ (fun _ => hS8) trivial ?_
      try simp only [Act.put, List.setIfInBounds_toArray, List.set]
      clear hK K hown8 hb8
      refine wpAnyB_ready (rs := [6]) (by kernel_rfl) (by simp) ?_
      refine AllReadyB.cons rfl (fun K hK => ?_) AllReadyB.nil
      go_simp
      refine hK.out _ _ (fun h => absurd (show true = false from h) (by decide)) trivial ?_
      try simp only [Act.put, List.setIfInBounds_toArray, List.set]
      clear hK K
      have HOF := hid (HO8.out.alloc (.cells #[.string s] 9))
      have HNF := hid (BoxN.new w8 #[.string s] 9)
      have HBF := hid (HB8.out.alloc hw8 (.cells #[.string s] 9))
      have hwF : w.heap.size ≤ (w8.alloc (.cells #[.string s] 9)).heap.size := Nat.le_trans hw8 (by simp)
      refine wpAnyB_ready (rs := [7]) (by kernel_rfl) (by simp) ?_
      refine AllReadyB.cons rfl (fun K hK => ?_) AllReadyB.nil
      refine step_append_form _ rfl (.tmp 35) (.tmp 38) 37 37 rfl w.heap.size 9 9 i0 (.string ⟨#[]⟩) 1 16 Tryz.underlying37 Tryz.underlying37 hi hz0 hz1 hz2 rfl (by decide) (.slice u8 0 c8) 0 (sv (out.take 0)) rfl HOF.out (some ⟨_, 0, none⟩) 1 1 [.string s] rfl rfl (fun _ => ⟨_, rfl, World.news_of_block HNF.out⟩) (by intro u hu; simp at hu; subst hu; rfl) (by omega) (by unfold maxLen; omega) (by omega) hwF ?_
      intro p9 cap9 w9 hown9 hg9 hat9 hlt9
      have HB9 := hid (HBF.out.grown hg9 hwF (fun b hb => (HOF.out.lt b hb).1))
      have hw9 := HB9.out.size
      refine hK.out _ _ (fun h => absurd (show true = false from h) (by decide)) trivial ?_
      try simp only [Act.put, List.setIfInBounds_toArray, List.set]
      clear hK K
      refine wpAnyB_ready (rs := [11]) (by kernel_rfl) (by simp) ?_
      refine AllReadyB.cons rfl (fun K hK => ?_) AllReadyB.nil
      refine step_append_form _ rfl (.tmp 39) (.tmp 42) 37 37 rfl w.heap.size 9 9 i0 (.string ⟨#[]⟩) 1 16 Tryz.underlying37 Tryz.underlying37 hi hz0 hz1 hz2 rfl (by decide) (.slice (some ⟨p9, 0, none⟩) (0 + 1) cap9) (0 + 1) (sv (out.take 0) ++ [.string s]) rfl hown9 none 0 _ (sv (out.drop 0)) rfl (by have h1 := HDL.out; rw [sv_len]; omega) (fun h => absurd h (by omega)) (sv_one _) (by omega) (by unfold maxLen; omega) (by omega) hw9 ?_
      intro p10 cap10 w10 hown10 hg10 hat10 hlt10
      have HB10 := hid (HB9.out.grown hg10 hw9 (fun b hb => (hown9.lt b hb).1))
      have HO10 : Hid (w10.ownsRow w.heap.size 9 1 (.slice (some ⟨p10, 0, none⟩) (0 + 1) cap10) (0 + 1) (sv (putS out 0 s))) := hid (by rw [HPE.out, sv_split, show 0 + 1 = 0 + 1 + 0 by omega]; exact hown10)
      refine hK.out _ _ (fun h => absurd (show true = false from h) (by decide)) trivial ?_
      try simp only [Act.put, List.setIfInBounds_toArray, List.set]
      clear hK K hown9 hg9 hat9 hlt9 hown10 hg10 hat10 hlt10
      refine wpAnyB_ready (rs := [12]) (by kernel_rfl) (by simp) ?_
      refine AllReadyB.cons rfl (fun K hK => ?_) AllReadyB.nil
      go_simp
      refine hK.out _ _ (fun h => absurd (show true = false from h) (by decide)) trivial ?_
      try simp only [Act.put, List.setIfInBounds_toArray, List.set]
      clear hK K
      try rw [show 0 + 1 + 0 = 0 + 1 by omega]
      refine wpAnyB_done (by kernel_rfl) ?_ _
      go_wp2_with fail
      go_roundg (gk - 1)
      case rel => exact ⟨0 + 1, putS out 0 s, by omega, by go_num, hid ⟨HB10.out, HO10.out, by rw [HPL.out, HOL.out], fun h => absurd h (by omega), HPW.out, HPP.out⟩⟩
      case measure => omega
     refine AllReadyB.cons rfl (fun K hK => ?_) ?_
     ·go_simp
      refine hK.out _ _ (fun h => absurd (show true = false from h) (by decide)) trivial ?_
      try simp only [Act.put, List.setIfInBounds_toArray, List.set]
      clear hK K
      have hwB : w.heap.size ≤ (Wd.alloc (.cells #[.string s] 9)).heap.size := Nat.le_trans hwd (by simp)
      have HBB := hid (HBD.out.alloc hwd (.cells #[.string s] 9))
      have HNB := hid (BoxN.new Wd #[.string s] 9)
      generalize hWB : Wd.alloc (.cells #[.string s] 9) = WB at *
      refine wpAnyB_ready (rs := [3]) (by kernel_rfl) (by simp) ?_
      refine AllReadyB.cons rfl (fun K hK => ?_) AllReadyB.nil
      ·refine step_append_strs rfl (.const (.slice none 0 0)) (.tmp 34) rfl rfl rfl (out.take 0) HTL.out.symm (by omega) (fun h => absurd h (by omega)) ?_
       intro u8 c8 w8 hown8 hb8
       have hw8 : w.heap.size ≤ w8.heap.size := Nat.le_trans hwB hb8.size
       have HO8 := hid (own_lower hown8 hwB)
       have HB8 := hid (HBB.out.trans (hb8.mono hwB))
       refine hK.out _ _ (fun h => absurd (show true = false from h) (by decide)) trivial ?_
       try simp only [Act.put, List.setIfInBounds_toArray, List.set]
       have HOF := HO8
       have HNF := hid (HNB.out.below hb8 HNB.out.lt)
       have HBF := HB8
       have hwF := hw8
       clear hK K hown8 hb8
       refine wpAnyB_ready (rs := [7]) (by kernel_rfl) (by simp) ?_
       refine AllReadyB.cons rfl (fun K hK => ?_) AllReadyB.nil
       refine step_append_form _ rfl (.tmp 35) (.tmp 38) 37 37 rfl w.heap.size 9 9 i0 (.string ⟨#[]⟩) 1 16 Tryz.underlying37 Tryz.underlying37 hi hz0 hz1 hz2 rfl (by decide) (.slice u8 0 c8) 0 (sv (out.take 0)) rfl HOF.out (some ⟨_, 0, none⟩) 1 1 [.string s] rfl rfl (fun _ => ⟨_, rfl, World.news_of_block HNF.out⟩) (by intro u hu; simp at hu; subst hu; rfl) (by omega) (by unfold maxLen; omega) (by omega) hwF ?_
       intro p9 cap9 w9 hown9 hg9 hat9 hlt9
       have HB9 := hid (HBF.out.grown hg9 hwF (fun b hb => (HOF.out.lt b hb).1))
       have hw9 := HB9.out.size
       refine hK.out _ _ (fun h => absurd (show true = false from h) (by decide)) trivial ?_
       try simp only [Act.put, List.setIfInBounds_toArray, List.set]
       clear hK K
       refine wpAnyB_ready (rs := [11]) (by kernel_rfl) (by simp) ?_
       refine AllReadyB.cons rfl (fun K hK => ?_) AllReadyB.nil
       refine step_append_form _ rfl (.tmp 39) (.tmp 42) 37 37 rfl w.heap.size 9 9 i0 (.string ⟨#[]⟩) 1 16 Tryz.underlying37 Tryz.underlying37 hi hz0 hz1 hz2 rfl (by decide) (.slice (some ⟨p9, 0, none⟩) (0 + 1) cap9) (0 + 1) (sv (out.take 0) ++ [.string s]) rfl hown9 none 0 _ (sv (out.drop 0)) rfl (by have h1 := HDL.out; rw [sv_len]; omega) (fun h => absurd h (by omega)) (sv_one _) (by omega) (by unfold maxLen; omega) (by omega) hw9 ?_
       intro p10 cap10 w10 hown10 hg10 hat10 hlt10
       have HB10 := hid (HB9.out.grown hg10 hw9 (fun b hb => (hown9.lt b hb).1))
       have HO10 : Hid (w10.ownsRow w.heap.size 9 1 (.slice (some ⟨p10, 0, none⟩) (0 + 1) cap10) (0 + 1) (sv (putS out 0 s))) := hid (by rw [HPE.out, sv_split, show 0 + 1 = 0 + 1 + 0 by omega]; exact hown10)
       refine hK.out _ _ (fun h => absurd (show true = false from h) (by decide)) trivial ?_
       try simp only [Act.put, List.setIfInBounds_toArray, List.set]
       clear hK K hown9 hg9 hat9 hlt9 hown10 hg10 hat10 hlt10
       refine wpAnyB_ready (rs := [12]) (by kernel_rfl) (by simp) ?_
       refine AllReadyB.cons rfl (fun K hK => ?_) AllReadyB.nil
       go_simp
       refine hK.out _ _ (fun h => absurd (show true = false from h) (by decide)) trivial ?_
       try simp only [Act.put, List.setIfInBounds_toArray, List.set]
       clear hK K
       try rw [show 0 + 1 + 0 = 0 + 1 by omega]
       refine wpAnyB_done (by kernel_rfl) ?_ _
       go_wp2_with fail
       go_roundg (gk - 1)
       case rel => exact ⟨0 + 1, putS out 0 s, by omega, by go_num, hid ⟨HB10.out, HO10.out, by rw [HPL.out, HOL.out], fun h => absurd h (by omega), HPW.out, HPP.out⟩⟩
       case measure => omega
     exact AllReadyB.nil
    ·obtain ⟨g, cap, e3, hg, hgz⟩ := HOWC.out.form hq0
     obtain ⟨rfl, -, rfl⟩ := Value.slice.inj e3
     clear e3
     have hgd : g < (W1.drewN m).drew.heap.size := hgz
     have hcg : ∀ i, i < q → (W1.drewN m).drew.cell? ⟨g, i, none⟩ = some (strF out i) := fun i hi => (HOWC.out.cellAt i (by omega)).trans (sv_at (by rw [HOL.out]; exact hi))
     by_cases hck : yc = k
     ·subst hck
      obtain rfl : q = yc := by omega
      go_upto_region 8 with fail
      refine wp_region_before (st := 6) (T := fun _ => True) (S := fun w' => w'.cell? ⟨wr.heap.size, 0, none⟩ = some (.string s)) (by kernel_rfl) ?_
      generalize (W1.drewN m).drew = Wd at *
      refine tB (i := 0) (oi := ?o0_9) (v := ?v0_9) ?hi0_9 ?hq0_9 ?hy0_9 (fun _ => hSd) ?r0_9
      case hi0_9 => (simp only [List.getElem?_toArray, List.getElem?_cons_zero, List.getElem?_cons_succ]; exact rfl)
      case hq0_9 => exact fun _ _ _ h => h
      case hy0_9 =>
       refine Or.inl ⟨by rfl, fun w' hSw => ?_⟩
       (try dsimp only at hSw)
       (first | (go_simp; done) | (go_simp; with_reducible rfl))
      try simp only [Act.put, List.setIfInBounds_toArray, List.set]
      refine tB (i := 1) (oi := ?o1_10) (v := ?v1_10) ?hi1_10 ?hq1_10 ?hy1_10 (fun _ => hSd) ?r1_10
      case hi1_10 => (simp only [List.getElem?_toArray, List.getElem?_cons_zero, List.getElem?_cons_succ]; exact rfl)
      case hq1_10 => exact fun _ _ _ h => h
      case hy1_10 =>
       refine Or.inl ⟨by rfl, fun w' hSw => ?_⟩
       (try dsimp only at hSw)
       (first | (go_simp; done) | (go_simp; with_reducible rfl))
      try simp only [Act.put, List.setIfInBounds_toArray, List.set]
      refine tB (i := 2) (oi := ?o2_11) (v := ?v2_11) ?hi2_11 ?hq2_11 ?hy2_11 (fun _ => hSd) ?r2_11
      case hi2_11 => (simp only [List.getElem?_toArray, List.getElem?_cons_zero, List.getElem?_cons_succ]; exact rfl)
      case hq2_11 => exact fun _ _ _ h => h
      case hy2_11 =>
       refine Or.inl ⟨by rfl, fun w' hSw => ?_⟩
       (try dsimp only at hSw)
       (first | (go_simp; done) | (go_simp; with_reducible rfl))
      try simp only [Act.put, List.setIfInBounds_toArray, List.set]
      refine tB (i := 4) (oi := ?o4_12) (v := ?v4_12) ?hi4_12 ?hq4_12 ?hy4_12 (fun _ => hSd) ?r4_12
      case hi4_12 => (simp only [List.getElem?_toArray, List.getElem?_cons_zero, List.getElem?_cons_succ]; exact rfl)
      case hq4_12 => exact fun _ _ _ h => h
      case hy4_12 =>
       refine Or.inl ⟨by rfl, fun w' hSw => ?_⟩
       (try dsimp only at hSw)
       (first | (go_simp; done) | (go_simp; with_reducible rfl))
      try simp only [Act.put, List.setIfInBounds_toArray, List.set]
      refine tA (i := 5) (oi := ?o5_13) (v := ?v5_13) [6] ?hi5_13 ?hq5_13 ?hy5_13 hSd ?r5_13
      case hi5_13 => (simp only [List.getElem?_toArray, List.getElem?_cons_zero, List.getElem?_cons_succ]; exact rfl)
      case hq5_13 => exact fun _ _ _ h => h
      case hy5_13 =>
       refine Or.inl ⟨by rfl, fun w' hSw => ?_⟩
       (try dsimp only at hSw)
       (first | (go_simp; done) | (go_simp; with_reducible rfl))
      try simp only [Act.put, List.setIfInBounds_toArray, List.set]
      refine tB (i := 8) (oi := ?o8_14) (v := ?v8_14) ?hi8_14 ?hq8_14 ?hy8_14 (fun _ => hSd) ?r8_14
      case hi8_14 => (simp only [List.getElem?_toArray, List.getElem?_cons_zero, List.getElem?_cons_succ]; exact rfl)
      case hq8_14 => exact fun _ _ _ h => h
      case hy8_14 =>
       refine Or.inl ⟨by rfl, fun w' hSw => ?_⟩
       (try dsimp only at hSw)
       (first | (go_simp; done) | (go_simp; with_reducible rfl))
      try simp only [Act.put, List.setIfInBounds_toArray, List.set]
      refine tB (i := 9) (oi := ?o9_15) (v := ?v9_15) ?hi9_15 ?hq9_15 ?hy9_15 (fun _ => hSd) ?r9_15
      case hi9_15 => (simp only [List.getElem?_toArray, List.getElem?_cons_zero, List.getElem?_cons_succ]; exact rfl)
      case hq9_15 => exact fun _ _ _ h => h
      case hy9_15 =>
       refine Or.inl ⟨by rfl, fun w' hSw => ?_⟩
       (try dsimp only at hSw)
       (first | (go_simp; done) | (go_simp; with_reducible rfl))
      try simp only [Act.put, List.setIfInBounds_toArray, List.set]
      refine tB (i := 10) (oi := ?o10_16) (v := ?v10_16) ?hi10_16 ?hq10_16 ?hy10_16 (fun _ => hSd) ?r10_16
      case hi10_16 => (simp only [List.getElem?_toArray, List.getElem?_cons_zero, List.getElem?_cons_succ]; exact rfl)
      case hq10_16 => exact fun _ _ _ h => h
      case hy10_16 =>
       refine Or.inl ⟨by rfl, fun w' hSw => ?_⟩
       (try dsimp only at hSw)
       (first | (go_simp; done) | (go_simp; with_reducible rfl))
      try simp only [Act.put, List.setIfInBounds_toArray, List.set]
      refine wpAnyB_ready (rs := [3, 6]) (by kernel_rfl) (by simp) ?_
      refine AllReadyB.cons rfl (fun K hK => ?_) ?_
      ·refine step_append_strs rfl (.const (.slice none 0 0)) (.tmp 34) rfl rfl rfl (out.take q) HTL.out.symm (by omega) (fun _ => ⟨g, 0, rfl, fun i hi => by rw [Nat.zero_add]; exact (hcg i (by omega)).trans (by rw [strF_take hi])⟩) ?_
       intro u8 c8 w8 hown8 hb8
       have hw8 : w.heap.size ≤ w8.heap.size := Nat.le_trans hwd hb8.size
       have HO8 := hid (own_lower hown8 hwd)
       have HF8 : Hid (∀ b, (Value.slice u8 q c8).ownBlock = some b → g < b) := hid (fun b hb => Nat.lt_of_lt_of_le hgd (hown8.lt b hb).1)
       have HB8 := hid (HBD.out.trans (hb8.mono hwd))
       have hS8 := (hb8.cell (p := ⟨wr.heap.size, 0, none⟩) hcbd).trans hSd
       have hc8 : ∀ i, i < q → w8.cell? ⟨g, i, none⟩ = some (strF out i) := fun i hi => (hb8.cell (p := ⟨g, i, none⟩) hgd).trans (hcg i hi)
       have hg8 : g < w8.heap.size := Nat.lt_of_lt_of_le hgd hb8.size
       refine hK.out _ _ (fun _ => hS8) trivial ?_
       try simp only [Act.put, List.setIfInBounds_toArray, List.set]
       clear hK K hown8 hb8
       refine wpAnyB_ready (rs := [6]) (by kernel_rfl) (by simp) ?_
       refine AllReadyB.cons rfl (fun K hK => ?_) AllReadyB.nil
       go_simp
       refine hK.out _ _ (fun h => absurd (show true = false from h) (by decide)) trivial ?_
       try simp only [Act.put, List.setIfInBounds_toArray, List.set]
       clear hK K
       have HOF := hid (HO8.out.alloc (.cells #[.string s] 9))
       have HNF := hid (BoxN.new w8 #[.string s] 9)
       have HBF := hid (HB8.out.alloc hw8 (.cells #[.string s] 9))
       have hwF : w.heap.size ≤ (w8.alloc (.cells #[.string s] 9)).heap.size := Nat.le_trans hw8 (by simp)
       have hcF : ∀ i, i < q → (w8.alloc (.cells #[.string s] 9)).cell? ⟨g, i, none⟩ = some (strF out i) := fun i hi => (World.cell?_alloc_lt _ _ ⟨g, i, none⟩ hg8).trans (hc8 i hi)
       have hgF : g < (w8.alloc (.cells #[.string s] 9)).heap.size := Nat.lt_of_lt_of_le hg8 (by simp)
       refine wpAnyB_ready (rs := [7]) (by kernel_rfl) (by simp) ?_
       refine AllReadyB.cons rfl (fun K hK => ?_) AllReadyB.nil
       refine step_append_form _ rfl (.tmp 35) (.tmp 38) 37 37 rfl w.heap.size 9 9 i0 (.string ⟨#[]⟩) 1 16 Tryz.underlying37 Tryz.underlying37 hi hz0 hz1 hz2 rfl (by decide) (.slice u8 q c8) q (sv (out.take q)) rfl HOF.out (some ⟨_, 0, none⟩) 1 1 [.string s] rfl rfl (fun _ => ⟨_, rfl, World.news_of_block HNF.out⟩) (by intro u hu; simp at hu; subst hu; rfl) (by omega) (by unfold maxLen; omega) (by omega) hwF ?_
       intro p9 cap9 w9 hown9 hg9 hat9 hlt9
       have HB9 := hid (HBF.out.grown hg9 hwF (fun b hb => (HOF.out.lt b hb).1))
       have hw9 := HB9.out.size
       have hc9 : ∀ i, i < q → w9.cell? ⟨g, i, none⟩ = some (strF out i) := fun i hi => (hg9.cell_far ⟨g, i, none⟩ hgF (fun e => by have := HF8.out g e.symm; omega)).trans (hcF i hi)
       refine hK.out _ _ (fun h => absurd (show true = false from h) (by decide)) trivial ?_
       try simp only [Act.put, List.setIfInBounds_toArray, List.set]
       clear hK K
       refine wpAnyB_ready (rs := [11]) (by kernel_rfl) (by simp) ?_
       refine AllReadyB.cons rfl (fun K hK => ?_) AllReadyB.nil
       refine step_append_form _ rfl (.tmp 39) (.tmp 42) 37 37 rfl w.heap.size 9 9 i0 (.string ⟨#[]⟩) 1 16 Tryz.underlying37 Tryz.underlying37 hi hz0 hz1 hz2 rfl (by decide) (.slice (some ⟨p9, 0, none⟩) (q + 1) cap9) (q + 1) (sv (out.take q) ++ [.string s]) rfl hown9 (some ⟨g, 0, none⟩) 0 _ (sv (out.drop q)) rfl (by have h1 := HDL.out; rw [sv_len]; omega) (fun h => absurd h (by omega)) (sv_one _) (by omega) (by unfold maxLen; omega) (by omega) hw9 ?_
       intro p10 cap10 w10 hown10 hg10 hat10 hlt10
       have HB10 := hid (HB9.out.grown hg10 hw9 (fun b hb => (hown9.lt b hb).1))
       have HO10 : Hid (w10.ownsRow w.heap.size 9 1 (.slice (some ⟨p10, 0, none⟩) (q + 1) cap10) (q + 1) (sv (putS out q s))) := hid (by rw [HPE.out, sv_split, show q + 1 = q + 1 + 0 by omega]; exact hown10)
       refine hK.out _ _ (fun h => absurd (show true = false from h) (by decide)) trivial ?_
       try simp only [Act.put, List.setIfInBounds_toArray, List.set]
       clear hK K hown9 hg9 hat9 hlt9 hown10 hg10 hat10 hlt10
       refine wpAnyB_ready (rs := [12]) (by kernel_rfl) (by simp) ?_
       refine AllReadyB.cons rfl (fun K hK => ?_) AllReadyB.nil
       go_simp
       refine hK.out _ _ (fun h => absurd (show true = false from h) (by decide)) trivial ?_
       try simp only [Act.put, List.setIfInBounds_toArray, List.set]
       clear hK K
       try rw [show q + 1 + 0 = q + 1 by omega]
       refine wpAnyB_done (by kernel_rfl) ?_ _
       go_wp2_with fail
       go_roundg (gk - 1)
       case rel => exact ⟨q + 1, putS out q s, by omega, by go_num, hid ⟨HB10.out, HO10.out, by rw [HPL.out, HOL.out], fun h => absurd h (by omega), HPW.out, HPP.out⟩⟩
       case measure => omega
      refine AllReadyB.cons rfl (fun K hK => ?_) ?_
      ·go_simp
       refine hK.out _ _ (fun h => absurd (show true = false from h) (by decide)) trivial ?_
       try simp only [Act.put, List.setIfInBounds_toArray, List.set]
       clear hK K
       have hwB : w.heap.size ≤ (Wd.alloc (.cells #[.string s] 9)).heap.size := Nat.le_trans hwd (by simp)
       have HBB := hid (HBD.out.alloc hwd (.cells #[.string s] 9))
       have HNB := hid (BoxN.new Wd #[.string s] 9)
       have hcgB : ∀ i, i < q → (Wd.alloc (.cells #[.string s] 9)).cell? ⟨g, i, none⟩ = some (strF out i) := fun i hi => (World.cell?_alloc_lt _ _ ⟨g, i, none⟩ hgd).trans (hcg i hi)
       have hgdB : g < (Wd.alloc (.cells #[.string s] 9)).heap.size := Nat.lt_of_lt_of_le hgd (by simp)
       generalize hWB : Wd.alloc (.cells #[.string s] 9) = WB at *
       refine wpAnyB_ready (rs := [3]) (by kernel_rfl) (by simp) ?_
       refine AllReadyB.cons rfl (fun K hK => ?_) AllReadyB.nil
       ·refine step_append_strs rfl (.const (.slice none 0 0)) (.tmp 34) rfl rfl rfl (out.take q) HTL.out.symm (by omega) (fun _ => ⟨g, 0, rfl, fun i hi => by rw [Nat.zero_add]; exact (hcgB i (by omega)).trans (by rw [strF_take hi])⟩) ?_
        intro u8 c8 w8 hown8 hb8
        have hw8 : w.heap.size ≤ w8.heap.size := Nat.le_trans hwB hb8.size
        have HO8 := hid (own_lower hown8 hwB)
        have HF8 : Hid (∀ b, (Value.slice u8 q c8).ownBlock = some b → g < b) := hid (fun b hb => Nat.lt_of_lt_of_le hgdB (hown8.lt b hb).1)
        have HB8 := hid (HBB.out.trans (hb8.mono hwB))
        refine hK.out _ _ (fun h => absurd (show true = false from h) (by decide)) trivial ?_
        try simp only [Act.put, List.setIfInBounds_toArray, List.set]
        have HOF := HO8
        have HNF := hid (HNB.out.below hb8 HNB.out.lt)
        have HBF := HB8
        have hwF := hw8
        have hcF : ∀ i, i < q → w8.cell? ⟨g, i, none⟩ = some (strF out i) := fun i hi => (hb8.cell (p := ⟨g, i, none⟩) hgdB).trans (hcgB i hi)
        have hgF : g < w8.heap.size := Nat.lt_of_lt_of_le hgdB hb8.size
        clear hK K hown8 hb8
        refine wpAnyB_ready (rs := [7]) (by kernel_rfl) (by simp) ?_
        refine AllReadyB.cons rfl (fun K hK => ?_) AllReadyB.nil
        refine step_append_form _ rfl (.tmp 35) (.tmp 38) 37 37 rfl w.heap.size 9 9 i0 (.string ⟨#[]⟩) 1 16 Tryz.underlying37 Tryz.underlying37 hi hz0 hz1 hz2 rfl (by decide) (.slice u8 q c8) q (sv (out.take q)) rfl HOF.out (some ⟨_, 0, none⟩) 1 1 [.string s] rfl rfl (fun _ => ⟨_, rfl, World.news_of_block HNF.out⟩) (by intro u hu; simp at hu; subst hu; rfl) (by omega) (by unfold maxLen; omega) (by omega) hwF ?_
        intro p9 cap9 w9 hown9 hg9 hat9 hlt9
        have HB9 := hid (HBF.out.grown hg9 hwF (fun b hb => (HOF.out.lt b hb).1))
        have hw9 := HB9.out.size
        have hc9 : ∀ i, i < q → w9.cell? ⟨g, i, none⟩ = some (strF out i) := fun i hi => (hg9.cell_far ⟨g, i, none⟩ hgF (fun e => by have := HF8.out g e.symm; omega)).trans (hcF i hi)
        refine hK.out _ _ (fun h => absurd (show true = false from h) (by decide)) trivial ?_
        try simp only [Act.put, List.setIfInBounds_toArray, List.set]
        clear hK K
        refine wpAnyB_ready (rs := [11]) (by kernel_rfl) (by simp) ?_
        refine AllReadyB.cons rfl (fun K hK => ?_) AllReadyB.nil
        refine step_append_form _ rfl (.tmp 39) (.tmp 42) 37 37 rfl w.heap.size 9 9 i0 (.string ⟨#[]⟩) 1 16 Tryz.underlying37 Tryz.underlying37 hi hz0 hz1 hz2 rfl (by decide) (.slice (some ⟨p9, 0, none⟩) (q + 1) cap9) (q + 1) (sv (out.take q) ++ [.string s]) rfl hown9 (some ⟨g, 0, none⟩) 0 _ (sv (out.drop q)) rfl (by have h1 := HDL.out; rw [sv_len]; omega) (fun h => absurd h (by omega)) (sv_one _) (by omega) (by unfold maxLen; omega) (by omega) hw9 ?_
        intro p10 cap10 w10 hown10 hg10 hat10 hlt10
        have HB10 := hid (HB9.out.grown hg10 hw9 (fun b hb => (hown9.lt b hb).1))
        have HO10 : Hid (w10.ownsRow w.heap.size 9 1 (.slice (some ⟨p10, 0, none⟩) (q + 1) cap10) (q + 1) (sv (putS out q s))) := hid (by rw [HPE.out, sv_split, show q + 1 = q + 1 + 0 by omega]; exact hown10)
        refine hK.out _ _ (fun h => absurd (show true = false from h) (by decide)) trivial ?_
        try simp only [Act.put, List.setIfInBounds_toArray, List.set]
        clear hK K hown9 hg9 hat9 hlt9 hown10 hg10 hat10 hlt10
        refine wpAnyB_ready (rs := [12]) (by kernel_rfl) (by simp) ?_
        refine AllReadyB.cons rfl (fun K hK => ?_) AllReadyB.nil
        go_simp
        refine hK.out _ _ (fun h => absurd (show true = false from h) (by decide)) trivial ?_
        try simp only [Act.put, List.setIfInBounds_toArray, List.set]
        clear hK K
        try rw [show q + 1 + 0 = q + 1 by omega]
        refine wpAnyB_done (by kernel_rfl) ?_ _
        go_wp2_with fail
        go_roundg (gk - 1)
        case rel => exact ⟨q + 1, putS out q s, by omega, by go_num, hid ⟨HB10.out, HO10.out, by rw [HPL.out, HOL.out], fun h => absurd h (by omega), HPW.out, HPP.out⟩⟩
        case measure => omega
      exact AllReadyB.nil
     ·have hck2 : ((yc : Int) == (k : Int)) = false := by simp; omega
      go_upto_region 8 with fail
      refine wp_region_before (st := 6) (T := fun _ => True) (S := fun w' => w'.cell? ⟨wr.heap.size, 0, none⟩ = some (.string s)) (by kernel_rfl) ?_
      generalize (W1.drewN m).drew = Wd at *
      refine tB (i := 0) (oi := ?o0_17) (v := ?v0_17) ?hi0_17 ?hq0_17 ?hy0_17 (fun _ => hSd) ?r0_17
      case hi0_17 => (simp only [List.getElem?_toArray, List.getElem?_cons_zero, List.getElem?_cons_succ]; exact rfl)
      case hq0_17 => exact fun _ _ _ h => h
      case hy0_17 =>
       refine Or.inl ⟨by rfl, fun w' hSw => ?_⟩
       (try dsimp only at hSw)
       (first | (go_simp; done) | (go_simp; with_reducible rfl))
      try simp only [Act.put, List.setIfInBounds_toArray, List.set]
      refine tB (i := 1) (oi := ?o1_18) (v := ?v1_18) ?hi1_18 ?hq1_18 ?hy1_18 (fun _ => hSd) ?r1_18
      case hi1_18 => (simp only [List.getElem?_toArray, List.getElem?_cons_zero, List.getElem?_cons_succ]; exact rfl)
      case hq1_18 => exact fun _ _ _ h => h
      case hy1_18 =>
       refine Or.inl ⟨by rfl, fun w' hSw => ?_⟩
       (try dsimp only at hSw)
       (first | (go_simp; done) | (go_simp; with_reducible rfl))
      try simp only [Act.put, List.setIfInBounds_toArray, List.set]
      refine tB (i := 2) (oi := ?o2_19) (v := ?v2_19) ?hi2_19 ?hq2_19 ?hy2_19 (fun _ => hSd) ?r2_19
      case hi2_19 => (simp only [List.getElem?_toArray, List.getElem?_cons_zero, List.getElem?_cons_succ]; exact rfl)
      case hq2_19 => exact fun _ _ _ h => h
      case hy2_19 =>
       refine Or.inl ⟨by rfl, fun w' hSw => ?_⟩
       (try dsimp only at hSw)
       (first | (go_simp; done) | (go_simp; with_reducible rfl))
      try simp only [Act.put, List.setIfInBounds_toArray, List.set]
      refine tB (i := 4) (oi := ?o4_20) (v := ?v4_20) ?hi4_20 ?hq4_20 ?hy4_20 (fun _ => hSd) ?r4_20
      case hi4_20 => (simp only [List.getElem?_toArray, List.getElem?_cons_zero, List.getElem?_cons_succ]; exact rfl)
      case hq4_20 => exact fun _ _ _ h => h
      case hy4_20 =>
       refine Or.inl ⟨by rfl, fun w' hSw => ?_⟩
       (try dsimp only at hSw)
       (first | (go_simp; done) | (go_simp; with_reducible rfl))
      try simp only [Act.put, List.setIfInBounds_toArray, List.set]
      refine tA (i := 5) (oi := ?o5_21) (v := ?v5_21) [6] ?hi5_21 ?hq5_21 ?hy5_21 hSd ?r5_21
      case hi5_21 => (simp only [List.getElem?_toArray, List.getElem?_cons_zero, List.getElem?_cons_succ]; exact rfl)
      case hq5_21 => exact fun _ _ _ h => h
      case hy5_21 =>
       refine Or.inl ⟨by rfl, fun w' hSw => ?_⟩
       (try dsimp only at hSw)
       (first | (go_simp; done) | (go_simp; with_reducible rfl))
      try simp only [Act.put, List.setIfInBounds_toArray, List.set]
      refine tB (i := 8) (oi := ?o8_22) (v := ?v8_22) ?hi8_22 ?hq8_22 ?hy8_22 (fun _ => hSd) ?r8_22
      case hi8_22 => (simp only [List.getElem?_toArray, List.getElem?_cons_zero, List.getElem?_cons_succ]; exact rfl)
      case hq8_22 => exact fun _ _ _ h => h
      case hy8_22 =>
       refine Or.inl ⟨by rfl, fun w' hSw => ?_⟩
       (try dsimp only at hSw)
       (first | (go_simp; done) | (go_simp; with_reducible rfl))
      try simp only [Act.put, List.setIfInBounds_toArray, List.set]
      refine tB (i := 9) (oi := ?o9_23) (v := ?v9_23) ?hi9_23 ?hq9_23 ?hy9_23 (fun _ => hSd) ?r9_23
      case hi9_23 => (simp only [List.getElem?_toArray, List.getElem?_cons_zero, List.getElem?_cons_succ]; exact rfl)
      case hq9_23 => exact fun _ _ _ h => h
      case hy9_23 =>
       refine Or.inl ⟨by rfl, fun w' hSw => ?_⟩
       (try dsimp only at hSw)
       (first | (go_simp; done) | (go_simp; with_reducible rfl))
      try simp only [Act.put, List.setIfInBounds_toArray, List.set]
      refine tB (i := 10) (oi := ?o10_24) (v := ?v10_24) ?hi10_24 ?hq10_24 ?hy10_24 (fun _ => hSd) ?r10_24
      case hi10_24 => (simp only [List.getElem?_toArray, List.getElem?_cons_zero, List.getElem?_cons_succ]; exact rfl)
      case hq10_24 => exact fun _ _ _ h => h
      case hy10_24 =>
       refine Or.inl ⟨by rfl, fun w' hSw => ?_⟩
       (try dsimp only at hSw)
       (first | (go_simp; done) | (go_simp; with_reducible rfl))
      try simp only [Act.put, List.setIfInBounds_toArray, List.set]
      refine wpAnyB_ready (rs := [3, 6]) (by kernel_rfl) (by simp) ?_
      refine AllReadyB.cons rfl (fun K hK => ?_) ?_
      ·refine step_append_strs rfl (.const (.slice none 0 0)) (.tmp 34) rfl rfl rfl (out.take k) HTL.out.symm (by omega) (fun _ => ⟨g, 0, rfl, fun i hi => by rw [Nat.zero_add]; exact (hcg i (by omega)).trans (by rw [strF_take hi])⟩) ?_
       intro u8 c8 w8 hown8 hb8
       have hw8 : w.heap.size ≤ w8.heap.size := Nat.le_trans hwd hb8.size
       have HO8 := hid (own_lower hown8 hwd)
       have HF8 : Hid (∀ b, (Value.slice u8 k c8).ownBlock = some b → g < b) := hid (fun b hb => Nat.lt_of_lt_of_le hgd (hown8.lt b hb).1)
       have HB8 := hid (HBD.out.trans (hb8.mono hwd))
       have hS8 := (hb8.cell (p := ⟨wr.heap.size, 0, none⟩) hcbd).trans hSd
       have hc8 : ∀ i, i < q → w8.cell? ⟨g, i, none⟩ = some (strF out i) := fun i hi => (hb8.cell (p := ⟨g, i, none⟩) hgd).trans (hcg i hi)
       have hg8 : g < w8.heap.size := Nat.lt_of_lt_of_le hgd hb8.size
       refine hK.out _ _ (fun _ => hS8) trivial ?_
       try simp only [Act.put, List.setIfInBounds_toArray, List.set]
       clear hK K hown8 hb8
       refine wpAnyB_ready (rs := [6]) (by kernel_rfl) (by simp) ?_
       refine AllReadyB.cons rfl (fun K hK => ?_) AllReadyB.nil
       go_simp
       refine hK.out _ _ (fun h => absurd (show true = false from h) (by decide)) trivial ?_
       try simp only [Act.put, List.setIfInBounds_toArray, List.set]
       clear hK K
       have HOF := hid (HO8.out.alloc (.cells #[.string s] 9))
       have HNF := hid (BoxN.new w8 #[.string s] 9)
       have HBF := hid (HB8.out.alloc hw8 (.cells #[.string s] 9))
       have hwF : w.heap.size ≤ (w8.alloc (.cells #[.string s] 9)).heap.size := Nat.le_trans hw8 (by simp)
       have hcF : ∀ i, i < q → (w8.alloc (.cells #[.string s] 9)).cell? ⟨g, i, none⟩ = some (strF out i) := fun i hi => (World.cell?_alloc_lt _ _ ⟨g, i, none⟩ hg8).trans (hc8 i hi)
       have hgF : g < (w8.alloc (.cells #[.string s] 9)).heap.size := Nat.lt_of_lt_of_le hg8 (by simp)
       refine wpAnyB_ready (rs := [7]) (by kernel_rfl) (by simp) ?_
       refine AllReadyB.cons rfl (fun K hK => ?_) AllReadyB.nil
       refine step_append_form _ rfl (.tmp 35) (.tmp 38) 37 37 rfl w.heap.size 9 9 i0 (.string ⟨#[]⟩) 1 16 Tryz.underlying37 Tryz.underlying37 hi hz0 hz1 hz2 rfl (by decide) (.slice u8 k c8) k (sv (out.take k)) rfl HOF.out (some ⟨_, 0, none⟩) 1 1 [.string s] rfl rfl (fun _ => ⟨_, rfl, World.news_of_block HNF.out⟩) (by intro u hu; simp at hu; subst hu; rfl) (by omega) (by unfold maxLen; omega) (by omega) hwF ?_
       intro p9 cap9 w9 hown9 hg9 hat9 hlt9
       have HB9 := hid (HBF.out.grown hg9 hwF (fun b hb => (HOF.out.lt b hb).1))
       have hw9 := HB9.out.size
       have hc9 : ∀ i, i < q → w9.cell? ⟨g, i, none⟩ = some (strF out i) := fun i hi => (hg9.cell_far ⟨g, i, none⟩ hgF (fun e => by have := HF8.out g e.symm; omega)).trans (hcF i hi)
       refine hK.out _ _ (fun h => absurd (show true = false from h) (by decide)) trivial ?_
       try simp only [Act.put, List.setIfInBounds_toArray, List.set]
       clear hK K
       refine wpAnyB_ready (rs := [11]) (by kernel_rfl) (by simp) ?_
       refine AllReadyB.cons rfl (fun K hK => ?_) AllReadyB.nil
       refine step_append_form _ rfl (.tmp 39) (.tmp 42) 37 37 rfl w.heap.size 9 9 i0 (.string ⟨#[]⟩) 1 16 Tryz.underlying37 Tryz.underlying37 hi hz0 hz1 hz2 rfl (by decide) (.slice (some ⟨p9, 0, none⟩) (k + 1) cap9) (k + 1) (sv (out.take k) ++ [.string s]) rfl hown9 (some ⟨g, k, none⟩) (q - k) _ (sv (out.drop k)) rfl (by have h1 := HDL.out; rw [sv_len]; omega) (fun _ => ⟨_, rfl, fun j u hu => by rw [Addr.add_lit]; exact dropS_at hc9 HOL.out hu⟩) (sv_one _) (by omega) (by unfold maxLen; omega) (by omega) hw9 ?_
       intro p10 cap10 w10 hown10 hg10 hat10 hlt10
       have HB10 := hid (HB9.out.grown hg10 hw9 (fun b hb => (hown9.lt b hb).1))
       have HO10 : Hid (w10.ownsRow w.heap.size 9 1 (.slice (some ⟨p10, 0, none⟩) (q + 1) cap10) (q + 1) (sv (putS out k s))) := hid (by rw [HPE.out, sv_split, show q + 1 = k + 1 + (q - k) by omega]; exact hown10)
       refine hK.out _ _ (fun h => absurd (show true = false from h) (by decide)) trivial ?_
       try simp only [Act.put, List.setIfInBounds_toArray, List.set]
       clear hK K hown9 hg9 hat9 hlt9 hown10 hg10 hat10 hlt10
       refine wpAnyB_ready (rs := [12]) (by kernel_rfl) (by simp) ?_
       refine AllReadyB.cons rfl (fun K hK => ?_) AllReadyB.nil
       go_simp
       refine hK.out _ _ (fun h => absurd (show true = false from h) (by decide)) trivial ?_
       try simp only [Act.put, List.setIfInBounds_toArray, List.set]
       clear hK K
       try rw [show k + 1 + (q - k) = q + 1 by omega]
       refine wpAnyB_done (by kernel_rfl) ?_ _
       go_wp2_with fail
       go_roundg (gk - 1)
       case rel => exact ⟨q + 1, putS out k s, by omega, by go_num, hid ⟨HB10.out, HO10.out, by rw [HPL.out, HOL.out], fun h => absurd h (by omega), HPW.out, HPP.out⟩⟩
       case measure => omega
      refine AllReadyB.cons rfl (fun K hK => ?_) ?_
      ·go_simp
       refine hK.out _ _ (fun h => absurd (show true = false from h) (by decide)) trivial ?_
       try simp only [Act.put, List.setIfInBounds_toArray, List.set]
       clear hK K
       have hwB : w.heap.size ≤ (Wd.alloc (.cells #[.string s] 9)).heap.size := Nat.le_trans hwd (by simp)
       have HBB := hid (HBD.out.alloc hwd (.cells #[.string s] 9))
       have HNB := hid (BoxN.new Wd #[.string s] 9)
       have hcgB : ∀ i, i < q → (Wd.alloc (.cells #[.string s] 9)).cell? ⟨g, i, none⟩ = some (strF out i) := fun i hi => (World.cell?_alloc_lt _ _ ⟨g, i, none⟩ hgd).trans (hcg i hi)
       have hgdB : g < (Wd.alloc (.cells #[.string s] 9)).heap.size := Nat.lt_of_lt_of_le hgd (by simp)
       generalize hWB : Wd.alloc (.cells #[.string s] 9) = WB at *
       refine wpAnyB_ready (rs := [3]) (by kernel_rfl) (by simp) ?_
       refine AllReadyB.cons rfl (fun K hK => ?_) AllReadyB.nil
       ·refine step_append_strs rfl (.const (.slice none 0 0)) (.tmp 34) rfl rfl rfl (out.take k) HTL.out.symm (by omega) (fun _ => ⟨g, 0, rfl, fun i hi => by rw [Nat.zero_add]; exact (hcgB i (by omega)).trans (by rw [strF_take hi])⟩) ?_
        intro u8 c8 w8 hown8 hb8
        have hw8 : w.heap.size ≤ w8.heap.size := Nat.le_trans hwB hb8.size
        have HO8 := hid (own_lower hown8 hwB)
        have HF8 : Hid (∀ b, (Value.slice u8 k c8).ownBlock = some b → g < b) := hid (fun b hb => Nat.lt_of_lt_of_le hgdB (hown8.lt b hb).1)
        have HB8 := hid (HBB.out.trans (hb8.mono hwB))
        refine hK.out _ _ (fun h => absurd (show true = false from h) (by decide)) trivial ?_
        try simp only [Act.put, List.setIfInBounds_toArray, List.set]
        have HOF := HO8
        have HNF := hid (HNB.out.below hb8 HNB.out.lt)
        have HBF := HB8
        have hwF := hw8
        have hcF : ∀ i, i < q → w8.cell? ⟨g, i, none⟩ = some (strF out i) := fun i hi => (hb8.cell (p := ⟨g, i, none⟩) hgdB).trans (hcgB i hi)
        have hgF : g < w8.heap.size := Nat.lt_of_lt_of_le hgdB hb8.size
        clear hK K hown8 hb8
        refine wpAnyB_ready (rs := [7]) (by kernel_rfl) (by simp) ?_
        refine AllReadyB.cons rfl (fun K hK => ?_) AllReadyB.nil
        refine step_append_form _ rfl (.tmp 35) (.tmp 38) 37 37 rfl w.heap.size 9 9 i0 (.string ⟨#[]⟩) 1 16 Tryz.underlying37 Tryz.underlying37 hi hz0 hz1 hz2 rfl (by decide) (.slice u8 k c8) k (sv (out.take k)) rfl HOF.out (some ⟨_, 0, none⟩) 1 1 [.string s] rfl rfl (fun _ => ⟨_, rfl, World.news_of_block HNF.out⟩) (by intro u hu; simp at hu; subst hu; rfl) (by omega) (by unfold maxLen; omega) (by omega) hwF ?_
        intro p9 cap9 w9 hown9 hg9 hat9 hlt9
        have HB9 := hid (HBF.out.grown hg9 hwF (fun b hb => (HOF.out.lt b hb).1))
        have hw9 := HB9.out.size
        have hc9 : ∀ i, i < q → w9.cell? ⟨g, i, none⟩ = some (strF out i) := fun i hi => (hg9.cell_far ⟨g, i, none⟩ hgF (fun e => by have := HF8.out g e.symm; omega)).trans (hcF i hi)
        refine hK.out _ _ (fun h => absurd (show true = false from h) (by decide)) trivial ?_
        try simp only [Act.put, List.setIfInBounds_toArray, List.set]
        clear hK K
        refine wpAnyB_ready (rs := [11]) (by kernel_rfl) (by simp) ?_
        refine AllReadyB.cons rfl (fun K hK => ?_) AllReadyB.nil
        refine step_append_form _ rfl (.tmp 39) (.tmp 42) 37 37 rfl w.heap.size 9 9 i0 (.string ⟨#[]⟩) 1 16 Tryz.underlying37 Tryz.underlying37 hi hz0 hz1 hz2 rfl (by decide) (.slice (some ⟨p9, 0, none⟩) (k + 1) cap9) (k + 1) (sv (out.take k) ++ [.string s]) rfl hown9 (some ⟨g, k, none⟩) (q - k) _ (sv (out.drop k)) rfl (by have h1 := HDL.out; rw [sv_len]; omega) (fun _ => ⟨_, rfl, fun j u hu => by rw [Addr.add_lit]; exact dropS_at hc9 HOL.out hu⟩) (sv_one _) (by omega) (by unfold maxLen; omega) (by omega) hw9 ?_
        intro p10 cap10 w10 hown10 hg10 hat10 hlt10
        have HB10 := hid (HB9.out.grown hg10 hw9 (fun b hb => (hown9.lt b hb).1))
        have HO10 : Hid (w10.ownsRow w.heap.size 9 1 (.slice (some ⟨p10, 0, none⟩) (q + 1) cap10) (q + 1) (sv (putS out k s))) := hid (by rw [HPE.out, sv_split, show q + 1 = k + 1 + (q - k) by omega]; exact hown10)
        refine hK.out _ _ (fun h => absurd (show true = false from h) (by decide)) trivial ?_
        try simp only [Act.put, List.setIfInBounds_toArray, List.set]
        clear hK K hown9 hg9 hat9 hlt9 hown10 hg10 hat10 hlt10
        refine wpAnyB_ready (rs := [12]) (by kernel_rfl) (by simp) ?_
        refine AllReadyB.cons rfl (fun K hK => ?_) AllReadyB.nil
        go_simp
        refine hK.out _ _ (fun h => absurd (show true = false from h) (by decide)) trivial ?_
        try simp only [Act.put, List.setIfInBounds_toArray, List.set]
        clear hK K
        try rw [show k + 1 + (q - k) = q + 1 by omega]
        refine wpAnyB_done (by kernel_rfl) ?_ _
        go_wp2_with fail
        go_roundg (gk - 1)
        case rel => exact ⟨q + 1, putS out k s, by omega, by go_num, hid ⟨HB10.out, HO10.out, by rw [HPL.out, HOL.out], fun h => absurd h (by omega), HPW.out, HPP.out⟩⟩
        case measure => omega
      exact AllReadyB.nil
  ·obtain rfl : q = n := by omega
   have HOUT : Hid (out = sortL (namesL xs)) := hid (weak_sort HST.out.weak (by
    have h := HST.out.perm
    rw [← HNL.out, List.take_length] at h
    exact h))
   have HND : Hid ((namesL xs).Nodup ↔ ∀ i, 0 < i → i < q → out.getD i ⟨#[]⟩ ≠ out.getD (i - 1) ⟨#[]⟩) := hid (by
    have h := HST.out.perm
    rw [← HNL.out, List.take_length] at h
    rw [← h.nodup_iff, weak_nodup HST.out.weak, HOL.out])
   have hrd : RdS wr wr.heap.size (.slice ya q yc) out := by
    have h : wr.ownsRow w.heap.size 9 1 (.slice ya q yc) out.length (out.map Value.string) := by rw [HOL.out]; exact HOWN.out
    exact rdS_of_own h
   have HRD := hid hrd
   have HBE := hid HST.out.bel
   obtain ⟨dn, hnd⟩ : ∃ dn, decide (namesL xs).Nodup = dn := ⟨_, rfl⟩
   have HDN := hid hnd
   have HFIN : Hid (∀ W, RdS W W.heap.size (.slice ya q yc) out → Below w.heap.size w W → NamesRP w (namesL xs) (.returned (.tuple #[.slice ya q yc, .bool dn])) W) := hid (fun W h1 h2 => ⟨ya, yc, by rw [HNL.out, hnd], by rw [HNL.out, ← HOUT.out]; exact h1, h2⟩)
   clear hrd HST hnd
   subst hLC
   go_wp2_with fail
   go_loopg [8] q (fun N j W => ∃ i : Nat, j = .int .i64 ((i : Int) + 1) ∧ ((i + 1 + N = q + 1 ∧ 0 < q) ∨ (i = 0 ∧ q = 0)) ∧ Hid (∀ j, 0 < j → j < i + 1 → out.getD j ⟨#[]⟩ ≠ out.getD (j - 1) ⟨#[]⟩) ∧ ∃ m, W = wr.drewN m)
   case atStart => exact ⟨0, rfl, by omega, hid (fun j h1 h2 => absurd h1 (by omega)), 0, rfl⟩
   case round =>
    obtain ⟨i, rfl, hiN, HNE, m, rfl⟩ := hrel
    by_cases hpi : i + 1 < q
    ·obtain ⟨g, cap, e3, hg, hgz⟩ := HOWN.out.form (by omega)
     obtain ⟨rfl, -, rfl⟩ := Value.slice.inj e3
     have hc0 : wr.cell? ⟨g, i, none⟩ = some (.string (out.getD i ⟨#[]⟩)) := (HOWN.out.cellAt i (by omega)).trans (sv_at (by rw [HOL.out]; omega))
     have hc1 : wr.cell? ⟨g, i + 1, none⟩ = some (.string (out.getD (i + 1) ⟨#[]⟩)) := (HOWN.out.cellAt (i + 1) (by omega)).trans (sv_at (by rw [HOL.out]; omega))
     have HNE2 : Hid (out.getD (i + 1) ⟨#[]⟩ ≠ out.getD i ⟨#[]⟩ → ∀ j, 0 < j → j < i + 1 + 1 → out.getD j ⟨#[]⟩ ≠ out.getD (j - 1) ⟨#[]⟩) := hid (fun h j h1 h2 => by
      by_cases e : j = i + 1
      ·subst e; rw [Nat.add_sub_cancel]; exact h
      ·exact HNE.out j h1 (by omega))
     have HNO : Hid (out.getD (i + 1) ⟨#[]⟩ = out.getD i ⟨#[]⟩ → ¬ (namesL xs).Nodup) := hid (fun h hn => HND.out.1 hn (i + 1) (by omega) hpi (by rw [Nat.add_sub_cancel]; exact h))
     clear e3
     generalize out.getD (i + 1) ⟨#[]⟩ = x at *
     generalize out.getD i ⟨#[]⟩ = y at *
     have hw1 : IntKind.i64.wrap ((i : Int) + 1 - 1) = (i : Int) := (IntWalk.i64_in _ (by omega)).trans (by omega)
     have hq1 : ((i : Int) + 1).toNat = i + 1 := by omega
     have hq2 : (0 : Int) ≤ (i : Int) + 1 := by omega
     have hq3 : (i : Int) + 1 < (q : Int) := by omega
     have hq4 : (i : Int) < (q : Int) := by omega
     have hq5 : (0 : Int) ≤ (i : Int) := by omega
     by_cases hxy : x = y
     ·subst hxy
      have hbe : (x.toList == x.toList) = true := by simp
      obtain rfl : dn = false := by rw [← HDN.out]; exact decide_eq_false (HNO.out rfl)
      go_wp2_with fail
      go_quiet (fail)
      go_wp2
      refine bodyPost_ret (by simp [results, Tryz.results13, go_sem]; rfl) rfl ?_
      exact HFIN.out _ HRD.out (by have h1 := HBE.out; repeat' (first | (with_reducible exact Below.refl _ _) | (with_reducible assumption) | (with_reducible refine below_drewN ?_) | (with_reducible refine Below.alloc ?_ ?_ _) | (with_reducible refine Below.drew ?_) | (with_reducible refine Below.setCell ?_ ?_ _) | (with_reducible refine Below.trans ?_ (Below.mono (by with_reducible assumption) ?_)) | go_size))
     ·have hbe : (x.toList == y.toList) = false := by
       cases h : (x.toList == y.toList) with
       | false => rfl
       | true => exact absurd (bytes_ext (eq_of_beq h)) hxy
      have hw2 : IntKind.i64.wrap ((i : Int) + 1 + 1) = (i : Int) + 1 + 1 := IntWalk.i64_in _ (by omega)
      go_wp2_with fail
      go_quiet (fail)
      clear hc0 hc1 hq1
      go_wp2_with fail
      go_roundg (gk - 1)
      case rel => exact ⟨i + 1, by go_num, .inl ⟨by omega, by omega⟩, hid (HNE2.out hxy), _, (by first | rfl | exact World.drewN_drewN | (simp; rfl))⟩
      case measure => omega
    ·have hd2 : ¬ (i : Int) + 1 < (q : Int) := by omega
     have hd3 : decide ((i : Int) + 1 < (q : Int)) = false := decide_eq_false hd2
     obtain rfl : dn = true := by rw [← HDN.out]; exact decide_eq_true (HND.out.2 fun j h1 h2 => HNE.out j h1 (by omega))
     go_wp2
     refine bodyPost_ret (by simp [results, Tryz.results13, go_sem]; rfl) rfl ?_
     exact HFIN.out _ HRD.out (by have h1 := HBE.out; repeat' (first | (with_reducible exact Below.refl _ _) | (with_reducible assumption) | (with_reducible refine below_drewN ?_) | (with_reducible refine Below.alloc ?_ ?_ _) | (with_reducible refine Below.drew ?_) | (with_reducible refine Below.setCell ?_ ?_ _) | (with_reducible refine Below.trans ?_ (Below.mono (by with_reducible assumption) ?_)) | go_size))
end Go.Proofs.YthblaeleogdfpaaGreatDoor
