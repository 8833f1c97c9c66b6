/- Contracts of the reference's CompareCells, can, equal. Contracts of the reference's Rows, equal, Project. -/
import Derived.Test.YthblaeleogdfpaaGreatDoorCToat
import Derived.Test.YthblaeleogdfpaaGreatDoorCToag
set_option linter.unusedVariables false
set_option linter.unusedSimpArgs false
namespace Go.Proofs.YthblaeleogdfpaaGreatDoor
open Go.RowKit
set_option maxHeartbeats 1000000 in
theorem ref_CompareCells (a b : Cl) (w : World) :
  Calls Tryz.prog 106 #[.agg #[.bool a.null, .string a.text], .agg #[.bool b.null, .string b.text]] w (Ret w (.int .i64 (cmpC a b))) := by
 have HC := hid (show cmpC a b = if a.null = true ∧ b.null = true then 0 else if a.null = true then -1 else if b.null = true then 1 else if sl a.text b.text = true then -1 else if a.text = b.text then 0 else 1 from rfl)
 have HB : Hid (Below w.heap.size w ((w.alloc (.cells #[.bool a.null, .string a.text] 104)).alloc (.cells #[.bool b.null, .string b.text] 104))) := hid (((Below.refl _ _).alloc (Nat.le_refl _) _).alloc (by simp) _)
 generalize cmpC a b = R at *
 obtain ⟨an, s⟩ := a
 obtain ⟨bn, t⟩ := b
 simp only at HC HB
 cases an
 ·cases bn
  ·have hc := HC.out
   by_cases h1 : Op.bytesLess s.toList t.toList = true
   ·have hc2 : R = -1 := by rw [hc, if_neg (by simp), if_neg (by simp), if_neg (by simp), if_pos (show sl s t = true from h1)]
    subst hc2
    clear HC hc
    go_enter Tryz.func106, Tryz.ntmps106
    go_wp2
    go_ret
    exact ⟨rfl, HB.out⟩
   ·by_cases h2 : s = t
    ·have hc2 : R = 0 := by rw [hc, if_neg (by simp), if_neg (by simp), if_neg (by simp), if_neg (show ¬ sl s t = true from h1), if_pos h2]
     subst hc2 h2
     have h3 : Op.bytesLess s.toList s.toList = false := by simpa using h1
     have h4 : (s.toList == s.toList) = true := by simp
     clear HC hc h1
     go_enter Tryz.func106, Tryz.ntmps106
     go_wp2
     go_ret
     exact ⟨rfl, HB.out⟩
    ·have hc2 : R = 1 := by rw [hc, if_neg (by simp), if_neg (by simp), if_neg (by simp), if_neg (show ¬ sl s t = true from h1), if_neg h2]
     subst hc2
     have h3 : Op.bytesLess s.toList t.toList = false := by simpa using h1
     have h4 : (s.toList == t.toList) = false := by
      cases h5 : (s.toList == t.toList) with
      | false => rfl
      | true => exact absurd (bytes_ext (eq_of_beq h5)) h2
     clear HC hc h1 h2
     go_enter Tryz.func106, Tryz.ntmps106
     go_wp2
     go_ret
     exact ⟨rfl, HB.out⟩
  ·obtain rfl : R = 1 := by simpa using HC.out
   clear HC
   go_enter Tryz.func106, Tryz.ntmps106
   go_wp2
   go_ret
   exact ⟨rfl, HB.out⟩
 ·cases bn
  ·obtain rfl : R = -1 := by simpa using HC.out
   clear HC
   go_enter Tryz.func106, Tryz.ntmps106
   go_wp2
   go_ret
   exact ⟨rfl, HB.out⟩
  ·obtain rfl : R = 0 := by simpa using HC.out
   clear HC
   go_enter Tryz.func106, Tryz.ntmps106
   go_wp2
   go_ret
   exact ⟨rfl, HB.out⟩
theorem size_toList (s : ByteArray) : s.size = s.toList.length := by rw [Lib.toList_data]; rfl
theorem empty_text {s : ByteArray} (h : s.size = 0) : s = ⟨#[]⟩ := bytes_ext (by
 have h1 : s.toList.length = 0 := by rw [← size_toList]; exact h
 rw [List.eq_nil_of_length_eq_zero h1, Lib.toList_data])
def RdOp (w : World) (B : Nat) (v : Value) (o : Po) : Prop := Rd w B v o.cols.length (intF o.cols)
theorem canL_1 {n : Nat} {o : Po} (h : o.kind = 1) : canL n o = (thereL n o.col && decide (o.cols.length = 0) && decide (o.text.size ≤ 1024)) := if_pos h
theorem canL_2 {n : Nat} {o : Po} (h : o.kind = 2 ∨ o.kind = 5) : canL n o = (thereL n o.col && decide (o.cols.length = 0) && decide (o.text.size = 0)) := by
 unfold canL
 rw [if_neg (by omega), if_pos h]
theorem canL_3 {n : Nat} {o : Po} (h : o.kind = 3) : canL n o = (o.cols.all (thereL n) && (decide (o.col = 0) && decide (o.text.size = 0) && decide (o.cols.length ≤ 64))) := by
 unfold canL
 rw [if_neg (by omega), if_neg (by omega), if_pos h]
theorem canL_4 {n : Nat} {o : Po} (h1 : o.kind ≠ 1) (h2 : o.kind ≠ 2) (h3 : o.kind ≠ 3) (h5 : o.kind ≠ 5) : canL n o = (decide (o.kind = 4) && decide (o.col = 0) && decide (o.text.size = 0) && decide (o.cols.length = 0)) := by
 unfold canL
 rw [if_neg h1, if_neg (by omega), if_neg h3]
set_option maxRecDepth 100000 in
set_option maxHeartbeats 4000000 in
theorem ref38_can (id : Int) (nm : ByteArray) (v u : Value) (xs : List Co) (o : Po) (B : Nat) (w : World) (hv : RdCo w (· < B) v xs) (hu : RdOp w B u o) (hB : B ≤ w.heap.size) (hl : xs.length ≤ 1048576) (hm : o.cols.length ≤ 1048576) (ht : o.text.size ≤ 1099511627776) :
  Calls Tryz.prog 66 #[.agg #[.int .i64 id, .string nm, v], o.val u] w (Ret w (.bool (canL xs.length o))) := by
 obtain ⟨cv, ⟨va, vc, rfl, hvc, hvm, hvr⟩, -⟩ := hv
 obtain ⟨ua, uc, rfl, huc, hum, hur⟩ := hu
 have H1 := hid (@canL_1 xs.length o)
 have H2 := hid (@canL_2 xs.length o)
 have H3 := hid (@canL_3 xs.length o)
 have H4 := hid (@canL_4 xs.length o)
 have HU := hid hur
 have HAL : Hid (∀ q, (o.cols.take q).all (thereL xs.length) = true → q < o.cols.length → (o.cols.take (q + 1)).all (thereL xs.length) = thereL xs.length (o.cols.getD q 0)) := hid (fun q h hq => by
  rw [List.take_succ_eq_append_getElem hq, List.all_append, h]
  simp [List.getD, hq])
 have HAN : Hid (∀ q, q < o.cols.length → thereL xs.length (o.cols.getD q 0) = false → o.cols.all (thereL xs.length) = false) := hid (fun q hq h => by
  rw [Bool.eq_false_iff]
  intro h2
  have := List.all_eq_true.1 h2 (o.cols.getD q 0) (getD_mem hq 0)
  rw [h] at this
  cases this)
 have HTL := hid (List.take_length (l := o.cols))
 generalize canL xs.length o = R at *
 clear hvr hur
 obtain ⟨kind, col, text, cols⟩ := o
 simp only [Po.val] at *
 generalize hxl : xs.length = n at *
 clear hxl
 generalize hcl : cols.length = m at *
 have HCL := hid hcl
 clear hcl
 have HB : Hid (Below w.heap.size w ((w.alloc (.cells #[.int .i64 id, .string nm, .slice va n vc] 24)).alloc (.cells #[.int .i64 kind, .int .i64 col, .string text, .slice ua m uc] 56))) := hid (((Below.refl _ _).alloc (Nat.le_refl _) _).alloc (by simp) _)
 have hth : ∀ k : Int, thereL n k = (decide (0 ≤ k) && decide (k < (n : Int))) := fun k => rfl
 go_enter Tryz.func66, Tryz.ntmps66
 generalize hLA : Code.loop _ = LA
 go_upto_region 1 with fail
 go_cut [5] (fun s5 wx => s5 = .bool (thereL n col) ∧ wx = ((w.alloc (.cells #[.int .i64 id, .string nm, .slice va n vc] 24)).alloc (.cells #[.int .i64 kind, .int .i64 col, .string text, .slice ua m uc] 56)))
 case first =>
  by_cases c1 : 0 ≤ col
  ·have d1 : decide (0 ≤ col) = true := decide_eq_true c1
   by_cases c2 : col < n
   ·have d2 : decide (col < (n : Int)) = true := decide_eq_true c2
    have HT : Hid (thereL n col = true) := hid (by unfold thereL; rw [d1, d2]; rfl)
    go_wp2_with fail
    go_meet
    exact ⟨congrArg Value.bool HT.out.symm, rfl⟩
   ·have d2 : decide (col < (n : Int)) = false := decide_eq_false c2
    have HT : Hid (thereL n col = false) := hid (by unfold thereL; rw [d1, d2]; rfl)
    go_wp2_with fail
    go_meet
    exact ⟨congrArg Value.bool HT.out.symm, rfl⟩
  ·have d1 : decide (0 ≤ col) = false := decide_eq_false c1
   have HT : Hid (thereL n col = false) := hid (by unfold thereL; rw [d1]; rfl)
   go_wp2_with fail
   go_meet
   exact ⟨congrArg Value.bool HT.out.symm, rfl⟩
 case rest =>
  obtain ⟨rfl, rfl⟩ := hcut
  have HX1 := hid ((BoxN.new w #[.int .i64 id, .string nm, .slice va n vc] 24).alloc (.cells #[.int .i64 kind, .int .i64 col, .string text, .slice ua m uc] 56))
  have hx2 := BoxN.new (w.alloc (.cells #[.int .i64 id, .string nm, .slice va n vc] 24)) #[.int .i64 kind, .int .i64 col, .string text, .slice ua m uc] 56
  rw [World.size_alloc] at hx2
  have HX2 := hid hx2
  have t2 := HX1.out.cell 2 rfl
  have o0 := HX2.out.cell 0 rfl
  have o1 := HX2.out.cell 1 rfl
  have o2 := HX2.out.cell 2 rfl
  have o3 := HX2.out.cell 3 rfl
  have HUW : Hid (0 < m → ∃ b o, ua = some ⟨b, o, none⟩ ∧ ∀ i, i < m → ((w.alloc (.cells #[.int .i64 id, .string nm, .slice va n vc] 24)).alloc (.cells #[.int .i64 kind, .int .i64 col, .string text, .slice ua m uc] 56)).cell? ⟨b, o + i, none⟩ = some (intF cols i)) := hid (fun h => by
   obtain ⟨b, o, e, hb, hc⟩ := HU.out h
   exact ⟨b, o, e, fun i hi => (HB.out.cell (p := ⟨b, o + i, none⟩) (by show b < w.heap.size; omega)).trans (hc i hi)⟩)
  clear hx2
  generalize ((w.alloc (.cells #[.int .i64 id, .string nm, .slice va n vc] 24)).alloc (.cells #[.int .i64 kind, .int .i64 col, .string text, .slice ua m uc] 56)) = W at *
  clear hth
  by_cases k1 : kind = 1
  ·subst k1
   have HR := hid (H1.out rfl)
   clear H1 H2 H3 H4
   cases htb : thereL n col
   ·have HTT := hid htb
    clear htb
    skip
    go_wp2_with fail
    go_ret
    exact ⟨ret_bool (by rw [HR.out]; simp [HTT.out] <;> rfl), HB.out⟩
   ·have HTT := hid htb
    clear htb
    by_cases hm0 : m = 0
    ·subst hm0
     by_cases he : text.size ≤ 1024
     ·have e1 : decide ((text.size : Int) ≤ 1024) = true := decide_eq_true (by omega)
      have e2 : decide (text.size ≤ 1024) = true := decide_eq_true he
      skip
      go_wp2_with fail
      go_ret
      exact ⟨ret_bool (by rw [HR.out]; simp [HTT.out, he, HCL.out] <;> rfl), HB.out⟩
     ·have e1 : decide ((text.size : Int) ≤ 1024) = false := decide_eq_false (by omega)
      have e2 : decide (text.size ≤ 1024) = false := decide_eq_false he
      skip
      go_wp2_with fail
      go_ret
      exact ⟨ret_bool (by rw [HR.out]; simp [HTT.out, he, HCL.out] <;> rfl), HB.out⟩
    ·have hm1 : ((m : Int) == 0) = false := by simpa using hm0
     have hm2 : ¬ (m : Int) = 0 := by omega
     skip
     go_wp2_with fail
     go_ret
     exact ⟨ret_bool (by rw [HR.out]; simp [HTT.out, hm0, HCL.out] <;> rfl), HB.out⟩
  ·have n1 : (kind == 1) = false := by simpa using k1
   by_cases k2 : kind = 2
   ·subst k2
    have HR := hid (H2.out (.inl rfl))
    clear H1 H2 H3 H4
    cases htb : thereL n col
    ·have HTT := hid htb
     clear htb
     skip
     go_wp2_with fail
     go_ret
     exact ⟨ret_bool (by rw [HR.out]; simp [HTT.out] <;> rfl), HB.out⟩
    ·have HTT := hid htb
     clear htb
     by_cases hm0 : m = 0
     ·subst hm0
      by_cases he : text.size = 0
      ·obtain rfl : text = ⟨#[]⟩ := empty_text he
       clear he
       skip
       go_wp2_with fail
       go_ret
       exact ⟨ret_bool (by rw [HR.out]; simp [HTT.out, HCL.out] <;> rfl), HB.out⟩
      ·have he1 : ¬ text.toList = [] := fun h => he (by rw [size_toList, h]; rfl)
       have he2 : (!text.toList.isEmpty) = true := by cases h : text.toList with | nil => exact absurd h he1 | cons _ _ => rfl
       have he3 : (text.toList == []) = false := by cases h : text.toList with | nil => exact absurd h he1 | cons _ _ => rfl
       skip
       go_wp2_with fail
       go_ret
       exact ⟨ret_bool (by rw [HR.out]; simp [HTT.out, he] <;> rfl), HB.out⟩
     ·have hm1 : ((m : Int) == 0) = false := by simpa using hm0
      have hm2 : ¬ (m : Int) = 0 := by omega
      skip
      go_wp2_with fail
      go_ret
      exact ⟨ret_bool (by rw [HR.out]; simp [HTT.out, hm0, HCL.out] <;> rfl), HB.out⟩
   ·have n2 : (kind == 2) = false := by simpa using k2
    by_cases k5 : kind = 5
    ·subst k5
     have HR := hid (H2.out (.inr rfl))
     clear H1 H2 H3 H4
     cases htb : thereL n col
     ·have HTT := hid htb
      clear htb
      skip
      go_wp2_with fail
      go_ret
      exact ⟨ret_bool (by rw [HR.out]; simp [HTT.out] <;> rfl), HB.out⟩
     ·have HTT := hid htb
      clear htb
      by_cases hm0 : m = 0
      ·subst hm0
       by_cases he : text.size = 0
       ·obtain rfl : text = ⟨#[]⟩ := empty_text he
        clear he
        skip
        go_wp2_with fail
        go_ret
        exact ⟨ret_bool (by rw [HR.out]; simp [HTT.out, HCL.out] <;> rfl), HB.out⟩
       ·have he1 : ¬ text.toList = [] := fun h => he (by rw [size_toList, h]; rfl)
        have he2 : (!text.toList.isEmpty) = true := by cases h : text.toList with | nil => exact absurd h he1 | cons _ _ => rfl
        have he3 : (text.toList == []) = false := by cases h : text.toList with | nil => exact absurd h he1 | cons _ _ => rfl
        skip
        go_wp2_with fail
        go_ret
        exact ⟨ret_bool (by rw [HR.out]; simp [HTT.out, he] <;> rfl), HB.out⟩
      ·have hm1 : ((m : Int) == 0) = false := by simpa using hm0
       have hm2 : ¬ (m : Int) = 0 := by omega
       skip
       go_wp2_with fail
       go_ret
       exact ⟨ret_bool (by rw [HR.out]; simp [HTT.out, hm0, HCL.out] <;> rfl), HB.out⟩
    ·have n5 : (kind == 5) = false := by simpa using k5
     have HTT : Hid True := hid trivial
     by_cases k3 : kind = 3
     ·subst k3
      have HR := hid (H3.out rfl)
      clear H1 H2 H3 H4 HU
      go_wp2_with fail
      subst hLA
      go_loopg [56] m (fun N i wr => ∃ q : Nat, i = .int .i64 (q : Int) ∧ q + N = m ∧ Hid ((cols.take q).all (thereL n) = true) ∧ wr = W)
      case atStart => exact ⟨0, rfl, by omega, hid rfl, rfl⟩
      case round =>
       obtain ⟨q, rfl, hq, HAQ, rfl⟩ := hrel
       by_cases hp : 0 < gk
       ·obtain ⟨b, o, rfl, hc⟩ := HUW.out (by omega)
        have k0 := hc q (by omega)
        have HSU := hid (HAL.out q HAQ.out (by omega))
        have HNO := hid (HAN.out q (by omega))
        clear hc
        unfold intF at k0
        generalize hz : cols.getD q 0 = z at *
        clear hz
        have HTH : Hid (thereL n z = (decide (0 ≤ z) && decide (z < (n : Int)))) := hid rfl
        by_cases z0 : z < 0
        ·have e1 : decide (z < 0) = true := decide_eq_true z0
         have HTT : Hid (cols.all (thereL n) = false) := hid (HNO.out (by rw [HTH.out, decide_eq_false (by omega)]; rfl))
         skip
         go_wp2_with fail
         go_ret
         exact ⟨ret_bool (by rw [HR.out]; simp [HTT.out] <;> rfl), HB.out⟩
        ·have e1 : decide (z < 0) = false := decide_eq_false z0
         by_cases z1 : (n : Int) ≤ z
         ·have e2 : decide ((n : Int) ≤ z) = true := decide_eq_true z1
          have HTT : Hid (cols.all (thereL n) = false) := hid (HNO.out (by rw [HTH.out, decide_eq_false (show ¬ z < (n : Int) by omega), Bool.and_false]))
          skip
          go_wp2_with fail
          go_ret
          exact ⟨ret_bool (by rw [HR.out]; simp [HTT.out] <;> rfl), HB.out⟩
         ·have e2 : decide ((n : Int) ≤ z) = false := decide_eq_false z1
          go_wp2_with fail
          go_roundg (gk - 1)
          case rel => exact ⟨q + 1, by go_num, by omega, hid (by rw [HSU.out, HTH.out, decide_eq_true (show 0 ≤ z by omega), decide_eq_true (show z < (n : Int) by omega)]; rfl), rfl⟩
          case measure => omega
       ·obtain rfl : gk = 0 := by omega
        obtain rfl : q = m := by omega
        have HTT : Hid (cols.all (thereL n) = true) := hid (by have h := HAQ.out; rw [List.take_of_length_le (by have := HCL.out; omega)] at h; exact h)
        by_cases hc0 : col = 0
        ·subst hc0
         by_cases he : text.size = 0
         ·obtain rfl : text = ⟨#[]⟩ := empty_text he
          clear he
          by_cases hm0 : q ≤ 64
          ·have e1 : decide ((q : Int) ≤ 64) = true := decide_eq_true (by omega)
           have e2 : decide (q ≤ 64) = true := decide_eq_true hm0
           skip
           go_wp2_with fail
           go_ret
           exact ⟨ret_bool (by rw [HR.out]; simp [HTT.out, HCL.out, hm0] <;> rfl), HB.out⟩
          ·have e1 : decide ((q : Int) ≤ 64) = false := decide_eq_false (by omega)
           have e2 : decide (q ≤ 64) = false := decide_eq_false hm0
           skip
           go_wp2_with fail
           go_ret
           exact ⟨ret_bool (by rw [HR.out]; simp [HTT.out, HCL.out, hm0] <;> rfl), HB.out⟩
         ·have he1 : ¬ text.toList = [] := fun h => he (by rw [size_toList, h]; rfl)
          have he2 : (!text.toList.isEmpty) = true := by cases h : text.toList with | nil => exact absurd h he1 | cons _ _ => rfl
          have he3 : (text.toList == []) = false := by cases h : text.toList with | nil => exact absurd h he1 | cons _ _ => rfl
          skip
          go_wp2_with fail
          go_ret
          exact ⟨ret_bool (by rw [HR.out]; simp [HTT.out, he] <;> rfl), HB.out⟩
        ·have hc1 : (col == 0) = false := by simpa using hc0
         skip
         go_wp2_with fail
         go_ret
         exact ⟨ret_bool (by rw [HR.out]; simp [HTT.out, hc0] <;> rfl), HB.out⟩
     ·have n3 : (kind == 3) = false := by simpa using k3
      have H4k := hid (H4.out k1 k2 k3 k5)
      clear H4
      by_cases k4 : kind = 4
      ·subst k4
       by_cases hc0 : col = 0
       ·subst hc0
        by_cases he : text.size = 0
        ·obtain rfl : text = ⟨#[]⟩ := empty_text he
         clear he
         by_cases hm0 : m = 0
         ·subst hm0
          skip
          go_wp2_with fail
          go_ret
          exact ⟨ret_bool (by rw [H4k.out]; simp [HTT.out, HCL.out] <;> rfl), HB.out⟩
         ·have hm1 : ((m : Int) == 0) = false := by simpa using hm0
          have hm2 : ¬ (m : Int) = 0 := by omega
          skip
          go_wp2_with fail
          go_ret
          exact ⟨ret_bool (by rw [H4k.out]; simp [HTT.out, hm0, HCL.out] <;> rfl), HB.out⟩
        ·have he1 : ¬ text.toList = [] := fun h => he (by rw [size_toList, h]; rfl)
         have he2 : (!text.toList.isEmpty) = true := by cases h : text.toList with | nil => exact absurd h he1 | cons _ _ => rfl
         have he3 : (text.toList == []) = false := by cases h : text.toList with | nil => exact absurd h he1 | cons _ _ => rfl
         skip
         go_wp2_with fail
         go_ret
         exact ⟨ret_bool (by rw [H4k.out]; simp [HTT.out, he] <;> rfl), HB.out⟩
       ·have hc1 : (col == 0) = false := by simpa using hc0
        skip
        go_wp2_with fail
        go_ret
        exact ⟨ret_bool (by rw [H4k.out]; simp [HTT.out, hc0] <;> rfl), HB.out⟩
      ·have n4 : (kind == 4) = false := by simpa using k4
       skip
       go_wp2_with fail
       go_ret
       exact ⟨ret_bool (by rw [H4k.out]; simp [HTT.out, k4] <;> rfl), HB.out⟩
end Go.Proofs.YthblaeleogdfpaaGreatDoor

namespace Go.Proofs.YthblaeleogdfpaaGreatDoor
open Go.RowKit
theorem ref03_Rows (id : Int) (nm : ByteArray) (v : Value) (xs : List Co) (B : Nat) (w : World) (hv : RdCo w (· < B) v xs) (hB : B ≤ w.heap.size) :
  Calls Tryz.prog 57 #[.agg #[.int .i64 id, .string nm, v]] w (Ret w (.int .i64 (rowsC xs : Int))) := by
 obtain ⟨cv, ⟨a, c, rfl, hc, hm, hr⟩, hcl⟩ := hv
 have HR := hid hr
 have HC := hid hcl
 have hb0 : Below w.heap.size w (w.alloc (.cells #[.int .i64 id, .string nm, .slice a xs.length c] 24)) := (Below.refl _ _).alloc (Nat.le_refl _) _
 have HB0 := hid hb0
 have HZ : Hid (xs.length = 0 → rowsC xs = 0) := hid (fun h => by rw [List.eq_nil_of_length_eq_zero h]; rfl)
 have HL : Hid ((xs.getD 0 Co.z).cells.length = rowsC xs) := hid rfl
 clear hr hcl hb0
 generalize hxl : xs.length = n at *
 have HXL := hid hxl
 clear hxl
 unfold maxLen at hm
 by_cases h0 : n = 0
 ·subst h0
  rw [HZ.out rfl]
  go_enter Tryz.func57, Tryz.ntmps57
  go_wp2
  go_ret
  exact ⟨rfl, HB0.out⟩
 ·obtain ⟨b, o, rfl, hb, hcell⟩ := HR.out (by omega)
  have hbw : b < w.heap.size := by have : b < B := hb; omega
  have HQ := hid (HC.out 0 (by omega))
  obtain ⟨ca, cc, hcq, -, -, -⟩ := HC.out 0 (by omega)
  rw [HL.out] at hcq
  have k1 : w.cell? ⟨b, o + 1, none⟩ = some (cv 0) := by have := hcell 0 (by omega) 1 (by omega); simpa [coF, two] using this
  rw [hcq] at k1
  have k2 : (w.alloc (.cells #[.int .i64 id, .string nm, .slice (some ⟨b, o, none⟩) n c] 24)).cell? ⟨b, o + 1, none⟩ = some (.slice ca (rowsC xs) cc) := (World.cell?_alloc_lt _ _ _ (by exact hbw)).trans k1
  clear hcell hcq k1
  generalize rowsC xs = m at *
  have hn1 : (0 : Int) < (n : Int) := by omega
  have hn2 : 0 < n := by omega
  go_enter Tryz.func57, Tryz.ntmps57
  go_wp2
  go_ret
  exact ⟨rfl, HB0.out⟩
theorem cell_dec (a b : Cl) : (decide (a = b) = true ∧ (a.null == b.null) = true ∧ (a.text.toList == b.text.toList) = true) ∨ (decide (a = b) = false ∧ ((a.null == b.null) = false ∨ ((a.null == b.null) = true ∧ (a.text.toList == b.text.toList) = false))) := by
 by_cases h : a = b
 ·subst h
  exact .inl ⟨decide_eq_true rfl, by simp, by simp⟩
 ·refine .inr ⟨decide_eq_false h, ?_⟩
  by_cases hn : a.null = b.null
  ·right
   refine ⟨by rw [hn]; simp, ?_⟩
   cases ht : (a.text.toList == b.text.toList) with
   | false => rfl
   | true =>
    obtain ⟨a1, a2⟩ := a
    obtain ⟨b1, b2⟩ := b
    simp only at hn ht
    subst hn
    exact absurd (by rw [bytes_ext (eq_of_beq ht)]) h
  ·left
   simpa using hn
set_option maxRecDepth 100000 in
set_option maxHeartbeats 4000000 in
theorem ref38_equal (id : Int) (nm : ByteArray) (v : Value) (xs : List Co) (n x y B : Nat) (w : World) (hv : RdCo w (· < B) v xs) (hB : B ≤ w.heap.size) (hc : ∀ c ∈ xs, c.cells.length = n) (hx : x < n) (hy : y < n) (hn : n ≤ 1048576) :
  Calls Tryz.prog 171 #[.agg #[.int .i64 id, .string nm, v], .int .i64 (x : Int), .int .i64 (y : Int)] w (Ret w (.bool (eqRow xs x y))) := by
 obtain ⟨cv, ⟨a, c, rfl, hcc, hm, hr⟩, hcl⟩ := hv
 have HR := hid hr
 have HC := hid hcl
 have HN := hid (fun q (hq : q < xs.length) => hc _ (getD_mem hq Co.z))
 have HEQ : Hid (∀ q, q < xs.length → decide ((xs.getD q Co.z).cells.getD x Cl.z = (xs.getD q Co.z).cells.getD y Cl.z) = false → eqRow xs x y = false) := hid (fun q hq h => by
  rw [Bool.eq_false_iff]
  intro h2
  have := List.all_eq_true.1 h2 _ (getD_mem hq Co.z)
  rw [h] at this
  cases this)
 have HYES : Hid ((∀ q, q < xs.length → decide ((xs.getD q Co.z).cells.getD x Cl.z = (xs.getD q Co.z).cells.getD y Cl.z) = true) → eqRow xs x y = true) := hid (fun h => by
  refine List.all_eq_true.2 fun z hz => ?_
  obtain ⟨i, hi, rfl⟩ := List.getElem_of_mem hz
  have := h i hi
  rw [show xs.getD i Co.z = xs[i] by simp [List.getD, hi]] at this
  exact this)
 generalize eqRow xs x y = R at *
 have HB0 : Hid (Below w.heap.size w (w.alloc (.cells #[.int .i64 id, .string nm, .slice a xs.length c] 24))) := hid ((Below.refl _ _).alloc (Nat.le_refl _) _)
 have HX0 := hid (BoxN.new w #[.int .i64 id, .string nm, .slice a xs.length c] 24)
 clear hr hcl hc
 generalize hxl : xs.length = L at *
 clear hxl
 unfold maxLen at hm
 go_enter Tryz.func171, Tryz.ntmps171
 generalize hLA : Code.loop _ = LA
 go_wp2_with fail
 have hz0 : (w.alloc (.cells #[.int .i64 id, .string nm, .slice a L c] 24)).heap.size = w.heap.size + 1 := by simp
 generalize w.alloc (.cells #[.int .i64 id, .string nm, .slice a L c] 24) = W0 at *
 subst hLA
 go_loopg [12] L (fun N i wr => ∃ q : Nat, q + N = L ∧ i = .int .i64 (q : Int) ∧ Hid (Below W0.heap.size W0 wr) ∧ Hid (∀ j, j < q → decide ((xs.getD j Co.z).cells.getD x Cl.z = (xs.getD j Co.z).cells.getD y Cl.z) = true))
 case atStart => exact ⟨0, by omega, rfl, hid (Below.refl _ _), hid (fun j h => absurd h (by omega))⟩
 case round =>
  obtain ⟨q, hq, rfl, HB, HALL⟩ := hrel
  have hwz := HB.out.size
  by_cases hp : 0 < gk
  ·obtain ⟨b, o, rfl, hb, hcell⟩ := HR.out (by omega)
   have hbw : b < B := hb
   have HBW := hid (HB0.out.trans (HB.out.mono (by omega)))
   have k0 : wr.cell? ⟨b, o + q * 2, none⟩ = some (.string (xs.getD q Co.z).name) := (HBW.out.cell (p := ⟨b, o + q * 2, none⟩) (by show b < w.heap.size; omega)).trans (hcell q (by omega) 0 (by omega))
   have k1 : wr.cell? ⟨b, o + q * 2 + 1, none⟩ = some (cv q) := (HBW.out.cell (p := ⟨b, o + q * 2 + 1, none⟩) (by show b < w.heap.size; omega)).trans (hcell q (by omega) 1 (by omega))
   have HRQ := hid (HC.out q (by omega))
   obtain ⟨ca, ck, hcq, hck1, hck2, hcell2⟩ := HC.out q (by omega)
   rw [HN.out q (by omega)] at hcq hcell2 hck1
   obtain ⟨b2, o2, rfl, hb2, hcell2⟩ := hcell2 (by omega)
   have hb2w : b2 < B := hb2
   have e0 : wr.cell? ⟨b2, o2 + x * 2, none⟩ = some (.bool ((xs.getD q Co.z).cells.getD x Cl.z).null) := (HBW.out.cell (p := ⟨b2, o2 + x * 2, none⟩) (by show b2 < w.heap.size; omega)).trans (hcell2 x hx 0 (by omega))
   have e1 : wr.cell? ⟨b2, o2 + x * 2 + 1, none⟩ = some (.string ((xs.getD q Co.z).cells.getD x Cl.z).text) := (HBW.out.cell (p := ⟨b2, o2 + x * 2 + 1, none⟩) (by show b2 < w.heap.size; omega)).trans (hcell2 x hx 1 (by omega))
   have e2 : wr.cell? ⟨b2, o2 + y * 2, none⟩ = some (.bool ((xs.getD q Co.z).cells.getD y Cl.z).null) := (HBW.out.cell (p := ⟨b2, o2 + y * 2, none⟩) (by show b2 < w.heap.size; omega)).trans (hcell2 y hy 0 (by omega))
   have e3 : wr.cell? ⟨b2, o2 + y * 2 + 1, none⟩ = some (.string ((xs.getD q Co.z).cells.getD y Cl.z).text) := (HBW.out.cell (p := ⟨b2, o2 + y * 2 + 1, none⟩) (by show b2 < w.heap.size; omega)).trans (hcell2 y hy 1 (by omega))
   rw [hcq] at k1
   have HEQ1 := hid (HEQ.out q (by omega))
   have HDEC := hid (cell_dec ((xs.getD q Co.z).cells.getD x Cl.z) ((xs.getD q Co.z).cells.getD y Cl.z))
   have HST : Hid (decide ((xs.getD q Co.z).cells.getD x Cl.z = (xs.getD q Co.z).cells.getD y Cl.z) = true → ∀ j, j < q + 1 → decide ((xs.getD j Co.z).cells.getD x Cl.z = (xs.getD j Co.z).cells.getD y Cl.z) = true) := hid (fun h j hj => by
    rcases Nat.lt_or_ge j q with h1 | h1
    ·exact HALL.out j h1
    ·obtain rfl : j = q := by omega
     exact h)
   clear hcell hcell2 hcq
   generalize (xs.getD q Co.z).name = xn at *
   generalize (xs.getD q Co.z).cells.getD x Cl.z = c1 at *
   generalize (xs.getD q Co.z).cells.getD y Cl.z = c2 at *
   obtain ⟨n1, s1⟩ := c1
   obtain ⟨n2, s2⟩ := c2
   simp only at e0 e1 e2 e3 HDEC
   have hx' : (x : Int) < n := by omega
   have hy' : (y : Int) < n := by omega
   have hcz : ∀ p : Addr, p.block < w.heap.size → (wr.alloc (.cells #[.string xn, .slice (some ⟨b2, o2, none⟩) n ck] 30)).cell? p = wr.cell? p := fun p hp => World.cell?_alloc_lt _ _ _ (by omega)
   have q0 := (hcz ⟨b2, o2 + x * 2, none⟩ (by show b2 < w.heap.size; omega)).trans e0
   have q1 := (hcz ⟨b2, o2 + x * 2 + 1, none⟩ (by show b2 < w.heap.size; omega)).trans e1
   have q2 := (hcz ⟨b2, o2 + y * 2, none⟩ (by show b2 < w.heap.size; omega)).trans e2
   have q3 := (hcz ⟨b2, o2 + y * 2 + 1, none⟩ (by show b2 < w.heap.size; omega)).trans e3
   clear hcz
   rcases HDEC.out with ⟨hd, h1, h2⟩ | ⟨hd, h1 | ⟨h1, h2⟩⟩
   ·have HS2 := hid (HST.out hd)
    clear hd
    go_wp2
    go_region
    go_wp2
    go_roundg (gk - 1)
    case rel => exact ⟨q + 1, by omega, by go_num, hid (by have := HB.out; repeat' (first | (with_reducible exact Below.refl _ _) | (with_reducible assumption) | (with_reducible refine below_drewN ?_) | (with_reducible refine Below.alloc ?_ ?_ _) | (with_reducible refine Below.drew ?_) | (with_reducible refine Below.setCell ?_ ?_ _) | (with_reducible refine Below.trans ?_ (Below.mono (by with_reducible assumption) ?_)) | go_size)), HS2⟩
    case measure => omega
   ·have HRF := hid (HEQ1.out hd)
    clear hd
    go_wp2
    go_region
    go_wp2
    go_ret
    exact ⟨ret_bool HRF.out.symm, by have := HBW.out; repeat' (first | (with_reducible exact Below.refl _ _) | (with_reducible assumption) | (with_reducible refine below_drewN ?_) | (with_reducible refine Below.alloc ?_ ?_ _) | (with_reducible refine Below.drew ?_) | (with_reducible refine Below.setCell ?_ ?_ _) | (with_reducible refine Below.trans ?_ (Below.mono (by with_reducible assumption) ?_)) | go_size)⟩
   ·have HRF := hid (HEQ1.out hd)
    clear hd
    go_wp2
    go_region
    go_wp2
    go_ret
    exact ⟨ret_bool HRF.out.symm, by have := HBW.out; repeat' (first | (with_reducible exact Below.refl _ _) | (with_reducible assumption) | (with_reducible refine below_drewN ?_) | (with_reducible refine Below.alloc ?_ ?_ _) | (with_reducible refine Below.drew ?_) | (with_reducible refine Below.setCell ?_ ?_ _) | (with_reducible refine Below.trans ?_ (Below.mono (by with_reducible assumption) ?_)) | go_size)⟩
  ·obtain rfl : gk = 0 := by omega
   obtain rfl : q = L := by omega
   have HRT := hid (HYES.out HALL.out)
   have HBW := hid (HB0.out.trans (HB.out.mono (by omega)))
   go_wp2
   go_ret
   exact ⟨ret_bool HRT.out.symm, HBW.out⟩
end Go.Proofs.YthblaeleogdfpaaGreatDoor
