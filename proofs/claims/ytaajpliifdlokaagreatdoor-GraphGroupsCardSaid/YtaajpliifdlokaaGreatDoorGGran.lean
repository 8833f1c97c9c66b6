/- Contracts of the reference's CompareCells, can, equal. -/
import Derived.Test.YtaajpliifdlokaaGreatDoorGGram
set_option linter.unusedVariables false
set_option linter.unusedSimpArgs false
namespace Go.Proofs.YtaajpliifdlokaaGreatDoor
open Go.RowKit
set_option maxHeartbeats 1000000 in
theorem ref_CompareCells (a b : Cl) (w : World) :
    Calls Tryz.prog 184 #[.agg #[.bool a.null, .string a.text], .agg #[.bool b.null, .string b.text]] w (Ret w (.int .i64 (cmpC a b))) := by
  have HC := hid (show cmpC a b = if a.null = true ∧ b.null = true then 0 else if a.null = true then -1 else if b.null = true then 1 else if sl a.text b.text = true then -1 else if a.text = b.text then 0 else 1 from rfl)
  have HB : Hid (Below w.heap.size w ((w.alloc (.cells #[.bool a.null, .string a.text] 84)).alloc (.cells #[.bool b.null, .string b.text] 84))) := hid (((Below.refl _ _).alloc (Nat.le_refl _) _).alloc (by simp) _)
  generalize cmpC a b = R at *
  obtain ⟨an, s⟩ := a
  obtain ⟨bn, t⟩ := b
  simp only at HC HB
  cases an
  · cases bn
    · have hc := HC.out
      by_cases h1 : Op.bytesLess s.toList t.toList = true
      · have hc2 : R = -1 := by rw [hc, if_neg (by simp), if_neg (by simp), if_neg (by simp), if_pos (show sl s t = true from h1)]
        subst hc2
        clear HC hc
        go_enter Tryz.func184, Tryz.ntmps184
        go_wp2
        go_ret
        exact ⟨rfl, HB.out⟩
      · by_cases h2 : s = t
        · have hc2 : R = 0 := by rw [hc, if_neg (by simp), if_neg (by simp), if_neg (by simp), if_neg (show ¬ sl s t = true from h1), if_pos h2]
          subst hc2 h2
          have h3 : Op.bytesLess s.toList s.toList = false := by simpa using h1
          have h4 : (s.toList == s.toList) = true := by simp
          clear HC hc h1
          go_enter Tryz.func184, Tryz.ntmps184
          go_wp2
          go_ret
          exact ⟨rfl, HB.out⟩
        · have hc2 : R = 1 := by rw [hc, if_neg (by simp), if_neg (by simp), if_neg (by simp), if_neg (show ¬ sl s t = true from h1), if_neg h2]
          subst hc2
          have h3 : Op.bytesLess s.toList t.toList = false := by simpa using h1
          have h4 : (s.toList == t.toList) = false := by
            cases h5 : (s.toList == t.toList) with
            | false => rfl
            | true => exact absurd (bytes_ext (eq_of_beq h5)) h2
          clear HC hc h1 h2
          go_enter Tryz.func184, Tryz.ntmps184
          go_wp2
          go_ret
          exact ⟨rfl, HB.out⟩
    · obtain rfl : R = 1 := by simpa using HC.out
      clear HC
      go_enter Tryz.func184, Tryz.ntmps184
      go_wp2
      go_ret
      exact ⟨rfl, HB.out⟩
  · cases bn
    · obtain rfl : R = -1 := by simpa using HC.out
      clear HC
      go_enter Tryz.func184, Tryz.ntmps184
      go_wp2
      go_ret
      exact ⟨rfl, HB.out⟩
    · obtain rfl : R = 0 := by simpa using HC.out
      clear HC
      go_enter Tryz.func184, Tryz.ntmps184
      go_wp2
      go_ret
      exact ⟨rfl, HB.out⟩
theorem size_toList (s : ByteArray) : s.size = s.toList.length := by rw [Lib.toList_data]; rfl
theorem empty_text {s : ByteArray} (h : s.size = 0) : s = ⟨#[]⟩ := bytes_ext (by
  have h1 : s.toList.length = 0 := by rw [← size_toList]; exact h
  rw [List.eq_nil_of_length_eq_zero h1, Lib.toList_data])
def RdOp (w : World) (B : Nat) (v : Value) (o : Po) : Prop := Rd w B v o.cols.length (intF o.cols)
theorem canL_1 {n : Nat} {o : Po} (h : o.kind = 1) : canL n o = (thereL n o.col && decide (o.cols.length = 0) && decide (o.text.size ≤ 1024)) := if_pos h
theorem canL_2 {n : Nat} {o : Po} (h : o.kind = 2 ∨ o.kind = 5) : canL n o = (thereL n o.col && decide (o.cols.length = 0) && decide (o.text.size = 0)) := by
  unfold canL
  rw [if_neg (by omega), if_pos h]
theorem canL_3 {n : Nat} {o : Po} (h : o.kind = 3) : canL n o = (o.cols.all (thereL n) && (decide (o.col = 0) && decide (o.text.size = 0) && decide (o.cols.length ≤ 64))) := by
  unfold canL
  rw [if_neg (by omega), if_neg (by omega), if_pos h]
theorem canL_4 {n : Nat} {o : Po} (h1 : o.kind ≠ 1) (h2 : o.kind ≠ 2) (h3 : o.kind ≠ 3) (h5 : o.kind ≠ 5) : canL n o = (decide (o.kind = 4) && decide (o.col = 0) && decide (o.text.size = 0) && decide (o.cols.length = 0)) := by
  unfold canL
  rw [if_neg h1, if_neg (by omega), if_neg h3]
set_option maxRecDepth 100000 in
set_option maxHeartbeats 4000000 in
theorem ref38_can (id : Int) (nm : ByteArray) (v u : Value) (xs : List Co) (o : Po) (B : Nat) (w : World) (hv : RdCo w (· < B) v xs) (hu : RdOp w B u o) (hB : B ≤ w.heap.size) (hl : xs.length ≤ 1048576) (hm : o.cols.length ≤ 1048576) (ht : o.text.size ≤ 1099511627776) :
  Calls Tryz.prog 149 #[.agg #[.int .i64 id, .string nm, v], o.val u] w (Ret w (.bool (canL xs.length o))) := by
 obtain ⟨cv, ⟨va, vc, rfl, hvc, hvm, hvr⟩, -⟩ := hv
 obtain ⟨ua, uc, rfl, huc, hum, hur⟩ := hu
 have H1 := hid (@canL_1 xs.length o)
 have H2 := hid (@canL_2 xs.length o)
 have H3 := hid (@canL_3 xs.length o)
 have H4 := hid (@canL_4 xs.length o)
 have HU := hid hur
 have HAL : Hid (∀ q, (o.cols.take q).all (thereL xs.length) = true → q < o.cols.length → (o.cols.take (q + 1)).all (thereL xs.length) = thereL xs.length (o.cols.getD q 0)) := hid (fun q h hq => by
  rw [List.take_succ_eq_append_getElem hq, List.all_append, h]
  simp [List.getD, hq])
 have HAN : Hid (∀ q, q < o.cols.length → thereL xs.length (o.cols.getD q 0) = false → o.cols.all (thereL xs.length) = false) := hid (fun q hq h => by
  rw [Bool.eq_false_iff]
  intro h2
  have := List.all_eq_true.1 h2 (o.cols.getD q 0) (getD_mem hq 0)
  rw [h] at this
  cases this)
 have HTL := hid (List.take_length (l := o.cols))
 generalize canL xs.length o = R at *
 clear hvr hur
 obtain ⟨kind, col, text, cols⟩ := o
 simp only [Po.val] at *
 generalize hxl : xs.length = n at *
 clear hxl
 generalize hcl : cols.length = m at *
 have HCL := hid hcl
 clear hcl
 have HB : Hid (Below w.heap.size w ((w.alloc (.cells #[.int .i64 id, .string nm, .slice va n vc] 51)).alloc (.cells #[.int .i64 kind, .int .i64 col, .string text, .slice ua m uc] 122))) := hid (((Below.refl _ _).alloc (Nat.le_refl _) _).alloc (by simp) _)
 have hth : ∀ k : Int, thereL n k = (decide (0 ≤ k) && decide (k < (n : Int))) := fun k => rfl
 go_enter Tryz.func149, Tryz.ntmps149
 generalize hLA : Code.loop _ = LA
 go_upto_region 1 with fail
 go_cut [5] (fun s5 wx => s5 = .bool (thereL n col) ∧ wx = ((w.alloc (.cells #[.int .i64 id, .string nm, .slice va n vc] 51)).alloc (.cells #[.int .i64 kind, .int .i64 col, .string text, .slice ua m uc] 122)))
 case first =>
  by_cases c1 : 0 ≤ col
  ·have d1 : decide (0 ≤ col) = true := decide_eq_true c1
   by_cases c2 : col < n
   ·have d2 : decide (col < (n : Int)) = true := decide_eq_true c2
    have HT : Hid (thereL n col = true) := hid (by unfold thereL; rw [d1, d2]; rfl)
    go_wp2_with fail
    go_meet
    exact ⟨congrArg Value.bool HT.out.symm, rfl⟩
   ·have d2 : decide (col < (n : Int)) = false := decide_eq_false c2
    have HT : Hid (thereL n col = false) := hid (by unfold thereL; rw [d1, d2]; rfl)
    go_wp2_with fail
    go_meet
    exact ⟨congrArg Value.bool HT.out.symm, rfl⟩
  ·have d1 : decide (0 ≤ col) = false := decide_eq_false c1
   have HT : Hid (thereL n col = false) := hid (by unfold thereL; rw [d1]; rfl)
   go_wp2_with fail
   go_meet
   exact ⟨congrArg Value.bool HT.out.symm, rfl⟩
 case rest =>
  obtain ⟨rfl, rfl⟩ := hcut
  have HX1 := hid ((BoxN.new w #[.int .i64 id, .string nm, .slice va n vc] 51).alloc (.cells #[.int .i64 kind, .int .i64 col, .string text, .slice ua m uc] 122))
  have hx2 := BoxN.new (w.alloc (.cells #[.int .i64 id, .string nm, .slice va n vc] 51)) #[.int .i64 kind, .int .i64 col, .string text, .slice ua m uc] 122
  rw [World.size_alloc] at hx2
  have HX2 := hid hx2
  have t2 := HX1.out.cell 2 rfl
  have o0 := HX2.out.cell 0 rfl
  have o1 := HX2.out.cell 1 rfl
  have o2 := HX2.out.cell 2 rfl
  have o3 := HX2.out.cell 3 rfl
  have HUW : Hid (0 < m → ∃ b o, ua = some ⟨b, o, none⟩ ∧ ∀ i, i < m → ((w.alloc (.cells #[.int .i64 id, .string nm, .slice va n vc] 51)).alloc (.cells #[.int .i64 kind, .int .i64 col, .string text, .slice ua m uc] 122)).cell? ⟨b, o + i, none⟩ = some (intF cols i)) := hid (fun h => by
   obtain ⟨b, o, e, hb, hc⟩ := HU.out h
   exact ⟨b, o, e, fun i hi => (HB.out.cell (p := ⟨b, o + i, none⟩) (by show b < w.heap.size; omega)).trans (hc i hi)⟩)
  clear hx2
  generalize ((w.alloc (.cells #[.int .i64 id, .string nm, .slice va n vc] 51)).alloc (.cells #[.int .i64 kind, .int .i64 col, .string text, .slice ua m uc] 122)) = W at *
  clear hth
  by_cases k1 : kind = 1
  ·subst k1
   have HR := hid (H1.out rfl)
   clear H1 H2 H3 H4
   cases htb : thereL n col
   ·have HTT := hid htb
    clear htb
    skip
    go_wp2_with fail
    go_ret
    exact ⟨ret_bool (by rw [HR.out]; simp [HTT.out] <;> rfl), HB.out⟩
   ·have HTT := hid htb
    clear htb
    by_cases hm0 : m = 0
    ·subst hm0
     by_cases he : text.size ≤ 1024
     ·have e1 : decide ((text.size : Int) ≤ 1024) = true := decide_eq_true (by omega)
      have e2 : decide (text.size ≤ 1024) = true := decide_eq_true he
      skip
      go_wp2_with fail
      go_ret
      exact ⟨ret_bool (by rw [HR.out]; simp [HTT.out, he, HCL.out] <;> rfl), HB.out⟩
     ·have e1 : decide ((text.size : Int) ≤ 1024) = false := decide_eq_false (by omega)
      have e2 : decide (text.size ≤ 1024) = false := decide_eq_false he
      skip
      go_wp2_with fail
      go_ret
      exact ⟨ret_bool (by rw [HR.out]; simp [HTT.out, he, HCL.out] <;> rfl), HB.out⟩
    ·have hm1 : ((m : Int) == 0) = false := by simpa using hm0
     have hm2 : ¬ (m : Int) = 0 := by omega
     skip
     go_wp2_with fail
     go_ret
     exact ⟨ret_bool (by rw [HR.out]; simp [HTT.out, hm0, HCL.out] <;> rfl), HB.out⟩
  ·have n1 : (kind == 1) = false := by simpa using k1
   by_cases k2 : kind = 2
   ·subst k2
    have HR := hid (H2.out (.inl rfl))
    clear H1 H2 H3 H4
    cases htb : thereL n col
    ·have HTT := hid htb
     clear htb
     skip
     go_wp2_with fail
     go_ret
     exact ⟨ret_bool (by rw [HR.out]; simp [HTT.out] <;> rfl), HB.out⟩
    ·have HTT := hid htb
     clear htb
     by_cases hm0 : m = 0
     ·subst hm0
      by_cases he : text.size = 0
      ·obtain rfl : text = ⟨#[]⟩ := empty_text he
       clear he
       skip
       go_wp2_with fail
       go_ret
       exact ⟨ret_bool (by rw [HR.out]; simp [HTT.out, HCL.out] <;> rfl), HB.out⟩
      ·have he1 : ¬ text.toList = [] := fun h => he (by rw [size_toList, h]; rfl)
       have he2 : (!text.toList.isEmpty) = true := by cases h : text.toList with | nil => exact absurd h he1 | cons _ _ => rfl
       have he3 : (text.toList == []) = false := by cases h : text.toList with | nil => exact absurd h he1 | cons _ _ => rfl
       skip
       go_wp2_with fail
       go_ret
       exact ⟨ret_bool (by rw [HR.out]; simp [HTT.out, he] <;> rfl), HB.out⟩
     ·have hm1 : ((m : Int) == 0) = false := by simpa using hm0
      have hm2 : ¬ (m : Int) = 0 := by omega
      skip
      go_wp2_with fail
      go_ret
      exact ⟨ret_bool (by rw [HR.out]; simp [HTT.out, hm0, HCL.out] <;> rfl), HB.out⟩
   ·have n2 : (kind == 2) = false := by simpa using k2
    by_cases k5 : kind = 5
    ·subst k5
     have HR := hid (H2.out (.inr rfl))
     clear H1 H2 H3 H4
     cases htb : thereL n col
     ·have HTT := hid htb
      clear htb
      skip
      go_wp2_with fail
      go_ret
      exact ⟨ret_bool (by rw [HR.out]; simp [HTT.out] <;> rfl), HB.out⟩
     ·have HTT := hid htb
      clear htb
      by_cases hm0 : m = 0
      ·subst hm0
       by_cases he : text.size = 0
       ·obtain rfl : text = ⟨#[]⟩ := empty_text he
        clear he
        skip
        go_wp2_with fail
        go_ret
        exact ⟨ret_bool (by rw [HR.out]; simp [HTT.out, HCL.out] <;> rfl), HB.out⟩
       ·have he1 : ¬ text.toList = [] := fun h => he (by rw [size_toList, h]; rfl)
        have he2 : (!text.toList.isEmpty) = true := by cases h : text.toList with | nil => exact absurd h he1 | cons _ _ => rfl
        have he3 : (text.toList == []) = false := by cases h : text.toList with | nil => exact absurd h he1 | cons _ _ => rfl
        skip
        go_wp2_with fail
        go_ret
        exact ⟨ret_bool (by rw [HR.out]; simp [HTT.out, he] <;> rfl), HB.out⟩
      ·have hm1 : ((m : Int) == 0) = false := by simpa using hm0
       have hm2 : ¬ (m : Int) = 0 := by omega
       skip
       go_wp2_with fail
       go_ret
       exact ⟨ret_bool (by rw [HR.out]; simp [HTT.out, hm0, HCL.out] <;> rfl), HB.out⟩
    ·have n5 : (kind == 5) = false := by simpa using k5
     have HTT : Hid True := hid trivial
     by_cases k3 : kind = 3
     ·subst k3
      have HR := hid (H3.out rfl)
      clear H1 H2 H3 H4 HU
      go_wp2_with fail
      subst hLA
      go_loopg [56] m (fun N i wr => ∃ q : Nat, i = .int .i64 (q : Int) ∧ q + N = m ∧ Hid ((cols.take q).all (thereL n) = true) ∧ wr = W)
      case atStart => exact ⟨0, rfl, by omega, hid rfl, rfl⟩
      case round =>
       obtain ⟨q, rfl, hq, HAQ, rfl⟩ := hrel
       by_cases hp : 0 < gk
       ·obtain ⟨b, o, rfl, hc⟩ := HUW.out (by omega)
        have k0 := hc q (by omega)
        have HSU := hid (HAL.out q HAQ.out (by omega))
        have HNO := hid (HAN.out q (by omega))
        clear hc
        unfold intF at k0
        generalize hz : cols.getD q 0 = z at *
        clear hz
        have HTH : Hid (thereL n z = (decide (0 ≤ z) && decide (z < (n : Int)))) := hid rfl
        by_cases z0 : z < 0
        ·have e1 : decide (z < 0) = true := decide_eq_true z0
         have HTT : Hid (cols.all (thereL n) = false) := hid (HNO.out (by rw [HTH.out, decide_eq_false (by omega)]; rfl))
         skip
         go_wp2_with fail
         go_ret
         exact ⟨ret_bool (by rw [HR.out]; simp [HTT.out] <;> rfl), HB.out⟩
        ·have e1 : decide (z < 0) = false := decide_eq_false z0
         by_cases z1 : (n : Int) ≤ z
         ·have e2 : decide ((n : Int) ≤ z) = true := decide_eq_true z1
          have HTT : Hid (cols.all (thereL n) = false) := hid (HNO.out (by rw [HTH.out, decide_eq_false (show ¬ z < (n : Int) by omega), Bool.and_false]))
          skip
          go_wp2_with fail
          go_ret
          exact ⟨ret_bool (by rw [HR.out]; simp [HTT.out] <;> rfl), HB.out⟩
         ·have e2 : decide ((n : Int) ≤ z) = false := decide_eq_false z1
          go_wp2_with fail
          go_roundg (gk - 1)
          case rel => exact ⟨q + 1, by go_num, by omega, hid (by rw [HSU.out, HTH.out, decide_eq_true (show 0 ≤ z by omega), decide_eq_true (show z < (n : Int) by omega)]; rfl), rfl⟩
          case measure => omega
       ·obtain rfl : gk = 0 := by omega
        obtain rfl : q = m := by omega
        have HTT : Hid (cols.all (thereL n) = true) := hid (by have h := HAQ.out; rw [List.take_of_length_le (by have := HCL.out; omega)] at h; exact h)
        by_cases hc0 : col = 0
        ·subst hc0
         by_cases he : text.size = 0
         ·obtain rfl : text = ⟨#[]⟩ := empty_text he
          clear he
          by_cases hm0 : q ≤ 64
          ·have e1 : decide ((q : Int) ≤ 64) = true := decide_eq_true (by omega)
           have e2 : decide (q ≤ 64) = true := decide_eq_true hm0
           skip
           go_wp2_with fail
           go_ret
           exact ⟨ret_bool (by rw [HR.out]; simp [HTT.out, HCL.out, hm0] <;> rfl), HB.out⟩
          ·have e1 : decide ((q : Int) ≤ 64) = false := decide_eq_false (by omega)
           have e2 : decide (q ≤ 64) = false := decide_eq_false hm0
           skip
           go_wp2_with fail
           go_ret
           exact ⟨ret_bool (by rw [HR.out]; simp [HTT.out, HCL.out, hm0] <;> rfl), HB.out⟩
         ·have he1 : ¬ text.toList = [] := fun h => he (by rw [size_toList, h]; rfl)
          have he2 : (!text.toList.isEmpty) = true := by cases h : text.toList with | nil => exact absurd h he1 | cons _ _ => rfl
          have he3 : (text.toList == []) = false := by cases h : text.toList with | nil => exact absurd h he1 | cons _ _ => rfl
          skip
          go_wp2_with fail
          go_ret
          exact ⟨ret_bool (by rw [HR.out]; simp [HTT.out, he] <;> rfl), HB.out⟩
        ·have hc1 : (col == 0) = false := by simpa using hc0
         skip
         go_wp2_with fail
         go_ret
         exact ⟨ret_bool (by rw [HR.out]; simp [HTT.out, hc0] <;> rfl), HB.out⟩
     ·have n3 : (kind == 3) = false := by simpa using k3
      have H4k := hid (H4.out k1 k2 k3 k5)
      clear H4
      by_cases k4 : kind = 4
      ·subst k4
       by_cases hc0 : col = 0
       ·subst hc0
        by_cases he : text.size = 0
        ·obtain rfl : text = ⟨#[]⟩ := empty_text he
         clear he
         by_cases hm0 : m = 0
         ·subst hm0
          skip
          go_wp2_with fail
          go_ret
          exact ⟨ret_bool (by rw [H4k.out]; simp [HTT.out, HCL.out] <;> rfl), HB.out⟩
         ·have hm1 : ((m : Int) == 0) = false := by simpa using hm0
          have hm2 : ¬ (m : Int) = 0 := by omega
          skip
          go_wp2_with fail
          go_ret
          exact ⟨ret_bool (by rw [H4k.out]; simp [HTT.out, hm0, HCL.out] <;> rfl), HB.out⟩
        ·have he1 : ¬ text.toList = [] := fun h => he (by rw [size_toList, h]; rfl)
         have he2 : (!text.toList.isEmpty) = true := by cases h : text.toList with | nil => exact absurd h he1 | cons _ _ => rfl
         have he3 : (text.toList == []) = false := by cases h : text.toList with | nil => exact absurd h he1 | cons _ _ => rfl
         skip
         go_wp2_with fail
         go_ret
         exact ⟨ret_bool (by rw [H4k.out]; simp [HTT.out, he] <;> rfl), HB.out⟩
       ·have hc1 : (col == 0) = false := by simpa using hc0
        skip
        go_wp2_with fail
        go_ret
        exact ⟨ret_bool (by rw [H4k.out]; simp [HTT.out, hc0] <;> rfl), HB.out⟩
      ·have n4 : (kind == 4) = false := by simpa using k4
       skip
       go_wp2_with fail
       go_ret
       exact ⟨ret_bool (by rw [H4k.out]; simp [HTT.out, k4] <;> rfl), HB.out⟩
end Go.Proofs.YtaajpliifdlokaaGreatDoor
