/- Contract of the reference's rows (chapter 38). -/
import Derived.Deep.DeepCutAuto
import Derived.Deep.CutRange
import Derived.Deep.CutBlock
import Derived.Test.YthblaeleogdfpaaGreatDoorCToaw
set_option linter.unusedVariables false
set_option linter.unusedSimpArgs false
namespace Go.Proofs.YthblaeleogdfpaaGreatDoor
open Go.RowKit
theorem info_intR : (Tryz.prog.info? 3).map (fun i => (i.zero, i.size, i.bytes)) = some (some (.int .i64 0), 1, 8) := by kernel_rfl
def iv (l : List Nat) : List Value := l.map fun (x : Nat) => Value.int .i64 ((x : Nat) : Int)
theorem own_capsA {w : World} {base : Nat} {e : TypeId} {a : Option Addr} {n cap size : Nat} {xs : List Value} (h : w.ownsRow base e size (.slice a n cap) n xs) : n ≤ cap ∧ cap ≤ maxLen := by
 rcases h.2 with ⟨h, _⟩ | ⟨g', cap', cur, h, hb, hg, hn, hm, hs, ht⟩
 ·obtain ⟨_, rfl, rfl⟩ := Value.slice.inj h
  exact ⟨Nat.le_refl _, by simp [maxLen]⟩
 ·obtain ⟨_, _, rfl⟩ := Value.slice.inj h
  exact ⟨hn, hm⟩
theorem iv_len (l : List Nat) : (iv l).length = l.length := by simp [iv]
theorem iv_at {l : List Nat} {i : Nat} (h : i < l.length) : (iv l)[i]? = some (natF l i) := by simp [iv, natF, List.getD, h]
theorem iv_one (l : List Nat) : ∀ u ∈ iv l, u.oneCell' = true := fun u hu => by
 obtain ⟨x, -, rfl⟩ := List.mem_map.1 hu
 rfl
theorem step_append_ints {w : World} {ops : Array Oper} {o : Oper} {a : Act} {K : Act → World → Prop} {Q : Exit → Act → World → Prop} {E : Prop} (hgd : o.guard = none) (s x : Operand)
  (ho : o.op = .call { callee := .builtin .append, args := #[s, x], argTypes := #[25, 25] }) (hs : a.eval s = .slice none 0 0) {ao : Option Addr} {n c : Nat} (hx : a.eval x = .slice ao n c) (l : List Nat) (hn : n = l.length) (hl : n ≤ 1048576)
  (hr : 0 < n → ∃ b o, ao = some ⟨b, o, none⟩ ∧ ∀ i, i < n → w.cell? ⟨b, o + i, none⟩ = some (natF l i))
  (h : ∀ ua uc w', w'.ownsRow w.heap.size 3 1 (.slice ua n uc) n (iv l) → Below w.heap.size w w' → K (a.put o.dst (.slice ua n uc)) w') : if Region.wanted o (yielded ops a.tmps) = true then Oper.wp Tryz.prog o a w K Q else E := by
 obtain ⟨i0, hi, hz0, hz1, hz2⟩ := info_parts info_intR
 by_cases h0 : n = 0
 ·subst h0
  refine step_append_zero0 hgd s x 25 25 ho 3 3 i0 Tryz.underlying25 Tryz.underlying25 hi none 0 0 hs (Nat.le_refl _) ao 0 c rfl hx (h none 0 w ?_ (Below.refl _ _))
  rw [List.eq_nil_of_length_eq_zero hn.symm]
  exact World.ownsRow_nil _ _ _ _
 ·obtain ⟨b, o', rfl, hcell⟩ := hr (by omega)
  subst hn
  refine step_append_form w hgd s x 25 25 ho w.heap.size 3 3 i0 (.int .i64 0) 1 8 Tryz.underlying25 Tryz.underlying25 hi hz0 hz1 hz2 rfl (by decide) (.slice none 0 0) 0 [] hs (World.ownsRow_nil _ _ _ _) (some ⟨b, o', none⟩) l.length c (iv l) hx (by rw [iv_len, Nat.mul_one]) (fun _ => ⟨_, rfl, fun j u hu => ?_⟩) (iv_one l) (by omega) (by unfold maxLen; omega) (by omega) (Nat.le_refl _) ?_
  ·have hj : j < l.length := by have := (List.getElem?_eq_some_iff.1 hu).1; rw [iv_len] at this; exact this
   rw [iv_at hj] at hu
   obtain rfl := Option.some.inj hu
   rw [Addr.add_lit]
   exact hcell j hj
  ·intro g cap w' hown hg hat hlt
   simp only [Nat.zero_add, List.nil_append] at hown ⊢
   exact h _ _ _ hown ⟨hg.os, hg.tape, hg.output, hg.size, fun k hk => hg.block k hk (fun e => by cases e)⟩
structure OutSt (w0 W : World) (v : Value) (out : List Nat) : Prop where
  bel : Below w0.heap.size w0 W
  own : W.ownsRow w0.heap.size 3 1 v out.length (iv out)
  nil : out.length = 0 → v = .slice none 0 0
theorem OutSt.later {w0 W W' : World} {v : Value} {out : List Nat} (h : OutSt w0 W v out) (hb : Below W.heap.size W W') : OutSt w0 W' v out := ⟨h.bel.trans (hb.mono h.bel.size), own_later h.own hb, h.nil⟩
theorem stepL_yes {xs : List Co} {o : Po} {out : List Nat} {r : Nat} (h : keepL xs o out r = true) : stepL xs o out r = out.take (atL xs o out r) ++ r :: out.drop (atL xs o out r) := if_pos h
theorem stepL_no {xs : List Co} {o : Po} {out : List Nat} {r : Nat} (h : keepL xs o out r = false) : stepL xs o out r = out := by unfold stepL; rw [h]; rfl
theorem canL_col {n : Nat} {o : Po} (h : canL n o = true) (hk : o.kind = 1 ∨ o.kind = 2 ∨ o.kind = 5) : ∃ k : Nat, o.col = (k : Int) ∧ k < n := by
 have h1 : thereL n o.col = true := by
  rcases hk with hk | hk | hk
  ·rw [canL_1 hk] at h; simp only [Bool.and_eq_true] at h; exact h.1.1
  ·rw [canL_2 (.inl hk)] at h; simp only [Bool.and_eq_true] at h; exact h.1.1
  ·rw [canL_2 (.inr hk)] at h; simp only [Bool.and_eq_true] at h; exact h.1.1
 unfold thereL at h1
 simp at h1
 exact ⟨o.col.toNat, by omega, by omega⟩
theorem canL_kind {n : Nat} {o : Po} (h : canL n o = true) : o.kind = 1 ∨ o.kind = 2 ∨ o.kind = 3 ∨ o.kind = 4 ∨ o.kind = 5 := by
 by_cases h1 : o.kind = 1
 ·exact .inl h1
 ·by_cases h2 : o.kind = 2
  ·exact .inr (.inl h2)
  ·by_cases h3 : o.kind = 3
   ·exact .inr (.inr (.inl h3))
   ·by_cases h5 : o.kind = 5
    ·exact .inr (.inr (.inr (.inr h5)))
    ·rw [canL_4 h1 h2 h3 h5] at h
     simp at h
     exact .inr (.inr (.inr (.inl h.1.1.1)))
theorem natF_take {l : List Nat} {k i : Nat} (h : i < k) : natF l i = natF (l.take k) i := by simp [natF, List.getD, List.getElem?_take, h]
theorem iv_split (a b : List Nat) (r : Nat) : iv (a ++ r :: b) = iv a ++ [.int .i64 (r : Int)] ++ iv b := by simp [iv]
theorem drop_at {w : World} {g q k j : Nat} {out : List Nat} {u : Value} (hc : ∀ i, i < q → w.cell? ⟨g, i, none⟩ = some (natF out i)) (hl : out.length = q) (hu : (iv (out.drop k))[j]? = some u) : w.cell? ⟨g, k + j, none⟩ = some u := by
 have hj : j < (out.drop k).length := by have := (List.getElem?_eq_some_iff.1 hu).1; rw [iv_len] at this; exact this
 rw [iv_at hj] at hu
 obtain rfl := Option.some.inj hu
 rw [List.length_drop] at hj
 rw [hc (k + j) (by omega)]
 simp [natF, List.getD]
def GivesN (w : World) (l : List Nat) (e : Ending) (w' : World) : Prop := ∃ v, e = .returned v ∧ Rd w' w'.heap.size v l.length (natF l) ∧ Below w.heap.size w w'
set_option maxRecDepth 100000 in
set_option maxHeartbeats 8000000 in
theorem ref38_rows (id : Int) (nm : ByteArray) (v u : Value) (xs : List Co) (o : Po) (B n : Nat) (w : World) (hv : RdCo w (· < B) v xs) (hu : RdOp w B u o) (hB : B ≤ w.heap.size) (hc : ∀ x ∈ xs, x.cells.length = n) (hn : rowsC xs = n) (hn4 : n ≤ 4096) (hl : xs.length ≤ 64) (hcan : canL xs.length o = true) (h3 : o.kind ≠ 3) (htx : o.text.size ≤ 1099511627776) :
  Calls Tryz.prog 118 #[.agg #[.int .i64 id, .string nm, v], o.val u] w (GivesN w (rowsL xs o n)) := by
 have HRO := hid (fun W (hW : Below w.heap.size w W) => ref03_Rows id nm v xs B W (hv.keep fun p (hp : p.block < B) => hW.cell (p := p) (by omega)) (Nat.le_trans hB hW.size))
 have HEQ := hid (fun (x y : Nat) W (hW : Below w.heap.size w W) (hx : x < n) (hy : y < n) => ref38_equal id nm v xs n x y B W (hv.keep fun p (hp : p.block < B) => hW.cell (p := p) (by omega)) (Nat.le_trans hB hW.size) hc hx hy (by omega))
 rw [hn] at HRO
 have HKC := hid (canL_col hcan)
 have HKK := hid (canL_kind hcan)
 obtain ⟨i0, hi, hz0, hz1, hz2⟩ := info_parts info_intR
 obtain ⟨cv, hcv, hcl⟩ := hv
 obtain ⟨a, c, rfl, hcc, hm, hr⟩ := hcv
 obtain ⟨ua, uc, rfl, huc, hum, hur⟩ := hu
 have HR := hid hr
 have HCL := hid hcl
 have HC := hid (fun q (hq : q < xs.length) => hc _ (getD_mem hq Co.z))
 have HR0 : Hid (rowsL xs o 0 = []) := hid rfl
 have HSU := hid (fun r => rowsL_succ xs o r)
 have HOK := hid (fun r => rowsL_ok xs o r)
 have HYES := hid (fun out r => @stepL_yes xs o out r)
 have HNO := hid (fun out r => @stepL_no xs o out r)
 have HATL := hid (fun out r => atL_le xs o out r)
 have HK1 : Hid (o.kind = 1 → ∀ out r, atL xs o out r = out.length ∧ keepL xs o out r = (!(cellAt xs o.col.toNat r).null && decide ((cellAt xs o.col.toNat r).text = o.text))) := hid (fun h out r => ⟨if_neg (by omega), if_pos h⟩)
 have HK2 : Hid (o.kind = 2 → ∀ out r, atL xs o out r = out.length ∧ keepL xs o out r = !(cellAt xs o.col.toNat r).null) := hid (fun h out r => ⟨if_neg (by omega), by unfold keepL; rw [if_neg (by omega), if_pos h]⟩)
 have HK4 : Hid (o.kind = 4 → ∀ out r, atL xs o out r = out.length ∧ keepL xs o out r = out.all fun x => !eqRow xs x r) := hid (fun h out r => ⟨if_neg (by omega), by unfold keepL; rw [if_neg (by omega), if_neg (by omega), if_pos h]⟩)
 have HK5 : Hid (o.kind = 5 → ∀ out r, atL xs o out r = sortAt (gtC xs o.col.toNat r) out out.length ∧ keepL xs o out r = true) := hid (fun h out r => ⟨if_pos h, by unfold keepL; rw [if_neg (by omega), if_neg (by omega), if_neg (by omega)]⟩)
 clear hr hcl hur hc hcan hn
 generalize rowsL xs o = RL at *
 generalize hat : atL xs o = AT at *
 generalize hke : keepL xs o = KE at *
 generalize stepL xs o = ST at *
 clear hat hke
 obtain ⟨kind, col, text, cols⟩ := o
 simp only [Po.val] at *
 generalize hxl : xs.length = L at *
 clear hxl
 generalize cols.length = m at *
 unfold maxLen at hm hum
 have HX0 := hid ((BoxN.new w #[.int .i64 id, .string nm, .slice a L c] 24).alloc (.cells #[.int .i64 kind, .int .i64 col, .string text, .slice ua m uc] 56))
 have hy0 := BoxN.new (w.alloc (.cells #[.int .i64 id, .string nm, .slice a L c] 24)) #[.int .i64 kind, .int .i64 col, .string text, .slice ua m uc] 56
 rw [World.size_alloc] at hy0
 have HY0 := hid hy0
 have HB0 := hid (((Below.refl w.heap.size w).alloc (Nat.le_refl _) (.cells #[.int .i64 id, .string nm, .slice a L c] 24)).alloc (by simp) (.cells #[.int .i64 kind, .int .i64 col, .string text, .slice ua m uc] 56))
 have hz0' : ((w.alloc (.cells #[.int .i64 id, .string nm, .slice a L c] 24)).alloc (.cells #[.int .i64 kind, .int .i64 col, .string text, .slice ua m uc] 56)).heap.size = w.heap.size + 2 := by simp
 have c0 := HX0.out.cell 0 rfl
 have c1 := HX0.out.cell 1 rfl
 have c2 := HX0.out.cell 2 rfl
 clear hy0
 go_enter Tryz.func118, Tryz.ntmps118
 generalize hLA : Code.loop _ = LA
 go_wp2_with fail
 generalize ((w.alloc (.cells #[.int .i64 id, .string nm, .slice a L c] 24)).alloc (.cells #[.int .i64 kind, .int .i64 col, .string text, .slice ua m uc] 56)) = W0 at *
 with_reducible refine (HRO.out W0 HB0.out).mono ?_
 rintro e w1 ⟨rfl, hb1⟩
 have HB1 := hid (HB0.out.trans (hb1.mono (by omega)))
 have HX1 := hid (HX0.out.below hb1 HX0.out.lt)
 have HY1 := hid (HY0.out.below hb1 HY0.out.lt)
 have hz1' := hb1.size
 clear c0 c1 c2 hb1 HRO
 go_wp2_with fail
 subst hLA
 go_loopg [15, 5] n (fun N i y wr => ∃ r : Nat, i = .int .i64 (r : Int) ∧ r + N = n ∧ Hid (OutSt w1 wr y (RL r)))
 case atStart => exact ⟨0, rfl, by omega, hid (by rw [HR0.out]; exact ⟨Below.refl _ _, World.ownsRow_nil _ _ _ _, fun _ => rfl⟩)⟩
 case round =>
  obtain ⟨r, rfl, hrn, HST⟩ := hrel
  have hwr := HST.out.bel.size
  obtain ⟨hlen, hmem⟩ := HOK.out r
  have HMEM := hid hmem
  have HSUr := hid (HSU.out r)
  clear hmem
  generalize hrl : RL r = out at *
  have HRL := hid hrl
  clear hrl
  generalize hol : out.length = q at *
  have HOL := hid hol
  have hown := HST.out.own
  rw [hol] at hown
  obtain ⟨ya, yc, rfl⟩ := own_slice hown
  obtain ⟨hqc, hqm⟩ := own_capsA hown
  have HOWN := hid hown
  clear hol hown
  unfold maxLen at hqm
  by_cases hp : 0 < gk
  ·obtain ⟨wo, rfl⟩ : ∃ wo, wo = wr := ⟨wr, rfl⟩
   have hrn' : r < n := by omega
   have HBW := hid (HB1.out.trans (HST.out.bel.mono (by omega)))
   have HX2 := hid (HX1.out.below HST.out.bel HX1.out.lt)
   have HY2 := hid (HY1.out.below HST.out.bel HY1.out.lt)
   have y0 := HY2.out.cell 0 rfl
   have y1 := HY2.out.cell 1 rfl
   have y2 := HY2.out.cell 2 rfl
   have x2 := HX2.out.cell 2 rfl
   go_upto_block 2 with fail
   go_cut [7, 8, 9, 11, 12] from 22 to 116 (fun s7 s8 s9 s11 s12 wx => s7 = .int .i64 ((AT out r : Nat) : Int) ∧ s8 = .bool (KE out r) ∧ Hid (Below wo.heap.size wo wx))
   case first =>
    rcases HKK.out with rfl | rfl | h33 | rfl | rfl
    ·-- OpEqual
     obtain ⟨k, rfl, hkL⟩ := HKC.out (.inl rfl)
     have hkL' : (k : Int) < (L : Int) := by omega
     obtain ⟨ba, oa, rfl, hba, hcella⟩ := HR.out (by omega)
     have hba' : ba < B := hba
     have k2 : wo.cell? ⟨ba, oa + k * 2 + 1, none⟩ = some (cv k) := (HBW.out.cell (p := ⟨ba, oa + k * 2 + 1, none⟩) (by show ba < w.heap.size; omega)).trans (hcella k hkL 1 (by omega))
     obtain ⟨ca, ck, hcq, hck1, -, hcell2⟩ := HCL.out k hkL
     rw [HC.out k hkL] at hcq hcell2 hck1
     obtain ⟨b2, o2, rfl, hb2, hcell2⟩ := hcell2 (by omega)
     have hb2' : b2 < B := hb2
     rw [hcq] at k2
     have HCE := hid (fun i (hi : i < n) W (hW : Below w.heap.size w W) => (And.intro ((hW.cell (p := ⟨b2, o2 + i * 2, none⟩) (by show b2 < w.heap.size; omega)).trans (hcell2 i hi 0 (by omega))) ((hW.cell (p := ⟨b2, o2 + i * 2 + 1, none⟩) (by show b2 < w.heap.size; omega)).trans (hcell2 i hi 1 (by omega))) : W.cell? ⟨b2, o2 + i * 2, none⟩ = some (.bool ((xs.getD k Co.z).cells.getD i Cl.z).null) ∧ W.cell? ⟨b2, o2 + i * 2 + 1, none⟩ = some (.string ((xs.getD k Co.z).cells.getD i Cl.z).text)))
     clear hcella hcq hcell2
     have hr' : (r : Int) < (n : Int) := by omega
     obtain ⟨m0, m1⟩ := HCE.out r hrn' wo HBW.out
     have HKR := hid (HK1.out rfl out r)
     have HKE : Hid (KE out r = (!((xs.getD k Co.z).cells.getD r Cl.z).null && decide (((xs.getD k Co.z).cells.getD r Cl.z).text = text))) := hid HKR.out.2
     generalize (xs.getD k Co.z).cells.getD r Cl.z = ce at *
     obtain ⟨cn, ct⟩ := ce
     simp only at m0 m1 HKE
     have hal : (wo.alloc (.cells #[.bool cn, .string ct] 104)).cell? ⟨w.heap.size + 1, 2, none⟩ = some (.string text) := (HY2.out.alloc _).cell 2 rfl
     cases cn
     ·by_cases hte : ct = text
      ·subst hte
       have q1 : (ct.toList == ct.toList) = true := by simp
       have HKT : Hid (KE out r = true) := hid (by rw [HKE.out]; simp)
       go_wp2_with fail
       go_meet
       exact ⟨by rw [HKR.out.1, HOL.out], congrArg Value.bool HKT.out.symm, hid (by have h1 := Below.refl wo.heap.size wo; repeat' (first | (with_reducible exact Below.refl _ _) | (with_reducible assumption) | (with_reducible refine below_drewN ?_) | (with_reducible refine Below.alloc ?_ ?_ _) | (with_reducible refine Below.drew ?_) | (with_reducible refine Below.setCell ?_ ?_ _) | (with_reducible refine Below.trans ?_ (Below.mono (by with_reducible assumption) ?_)) | go_size))⟩
      ·have q1 : (ct.toList == text.toList) = false := by
        cases h5 : (ct.toList == text.toList) with
        | false => rfl
        | true => exact absurd (bytes_ext (eq_of_beq h5)) hte
       have HKT : Hid (KE out r = false) := hid (by rw [HKE.out]; simp [hte])
       go_wp2_with fail
       go_meet
       exact ⟨by rw [HKR.out.1, HOL.out], congrArg Value.bool HKT.out.symm, hid (by have h1 := Below.refl wo.heap.size wo; repeat' (first | (with_reducible exact Below.refl _ _) | (with_reducible assumption) | (with_reducible refine below_drewN ?_) | (with_reducible refine Below.alloc ?_ ?_ _) | (with_reducible refine Below.drew ?_) | (with_reducible refine Below.setCell ?_ ?_ _) | (with_reducible refine Below.trans ?_ (Below.mono (by with_reducible assumption) ?_)) | go_size))⟩
     ·have HKT : Hid (KE out r = false) := hid (by rw [HKE.out]; simp)
      go_wp2_with fail
      go_meet
      exact ⟨by rw [HKR.out.1, HOL.out], congrArg Value.bool HKT.out.symm, hid (by have h1 := Below.refl wo.heap.size wo; repeat' (first | (with_reducible exact Below.refl _ _) | (with_reducible assumption) | (with_reducible refine below_drewN ?_) | (with_reducible refine Below.alloc ?_ ?_ _) | (with_reducible refine Below.drew ?_) | (with_reducible refine Below.setCell ?_ ?_ _) | (with_reducible refine Below.trans ?_ (Below.mono (by with_reducible assumption) ?_)) | go_size))⟩
    ·-- OpFull
     obtain ⟨k, rfl, hkL⟩ := HKC.out (.inr (.inl rfl))
     have hkL' : (k : Int) < (L : Int) := by omega
     obtain ⟨ba, oa, rfl, hba, hcella⟩ := HR.out (by omega)
     have hba' : ba < B := hba
     have k2 : wo.cell? ⟨ba, oa + k * 2 + 1, none⟩ = some (cv k) := (HBW.out.cell (p := ⟨ba, oa + k * 2 + 1, none⟩) (by show ba < w.heap.size; omega)).trans (hcella k hkL 1 (by omega))
     obtain ⟨ca, ck, hcq, hck1, -, hcell2⟩ := HCL.out k hkL
     rw [HC.out k hkL] at hcq hcell2 hck1
     obtain ⟨b2, o2, rfl, hb2, hcell2⟩ := hcell2 (by omega)
     have hb2' : b2 < B := hb2
     rw [hcq] at k2
     have HCE := hid (fun i (hi : i < n) W (hW : Below w.heap.size w W) => (And.intro ((hW.cell (p := ⟨b2, o2 + i * 2, none⟩) (by show b2 < w.heap.size; omega)).trans (hcell2 i hi 0 (by omega))) ((hW.cell (p := ⟨b2, o2 + i * 2 + 1, none⟩) (by show b2 < w.heap.size; omega)).trans (hcell2 i hi 1 (by omega))) : W.cell? ⟨b2, o2 + i * 2, none⟩ = some (.bool ((xs.getD k Co.z).cells.getD i Cl.z).null) ∧ W.cell? ⟨b2, o2 + i * 2 + 1, none⟩ = some (.string ((xs.getD k Co.z).cells.getD i Cl.z).text)))
     clear hcella hcq hcell2
     have hr' : (r : Int) < (n : Int) := by omega
     obtain ⟨m0, m1⟩ := HCE.out r hrn' wo HBW.out
     have HKR := hid (HK2.out rfl out r)
     have HKE : Hid (KE out r = !((xs.getD k Co.z).cells.getD r Cl.z).null) := hid HKR.out.2
     generalize (xs.getD k Co.z).cells.getD r Cl.z = ce at *
     obtain ⟨cn, ct⟩ := ce
     simp only at m0 m1 HKE
     cases cn
     ·go_wp2_with fail
      go_meet
      exact ⟨by rw [HKR.out.1, HOL.out], congrArg Value.bool HKE.out.symm, hid (Below.refl _ _)⟩
     ·go_wp2_with fail
      go_meet
      exact ⟨by rw [HKR.out.1, HOL.out], congrArg Value.bool HKE.out.symm, hid (Below.refl _ _)⟩
    ·exact absurd h33 h3
    ·-- OpDistinct
     have HKR := hid (HK4.out rfl out r)
     go_wp2_with fail
     go_loopg [62, 8] q (fun N i kp wr => ∃ j : Nat, i = .int .i64 (j : Int) ∧ j + N = q ∧ kp = .bool ((out.take j).all fun x => !eqRow xs x r) ∧ Hid (Below wo.heap.size wo wr))
     case atStart => exact ⟨0, rfl, by omega, rfl, hid (Below.refl _ _)⟩
     case round =>
      obtain ⟨j, rfl, hj, rfl, HBJ⟩ := hrel
      have hwj := HBJ.out.size
      by_cases hjp : 0 < gk
      ·obtain ⟨g, cap, e3, hg, hgz⟩ := HOWN.out.form (by omega)
       obtain ⟨rfl, -, rfl⟩ := Value.slice.inj e3
       clear e3
       have hol' := HOL.out
       have hjo : j < out.length := by omega
       have k0 : wr.cell? ⟨g, j, none⟩ = some (.int .i64 ((out.getD j 0 : Nat) : Int)) := (HBJ.out.cell (p := ⟨g, j, none⟩) hgz).trans ((HOWN.out.cellAt j (by omega)).trans (iv_at hjo))
       have hxr := HMEM.out _ (getD_mem hjo 0)
       have HST1 : Hid ((out.take (j + 1)).all (fun x => !eqRow xs x r) = ((out.take j).all (fun x => !eqRow xs x r) && !eqRow xs (out.getD j 0) r)) := hid (by
        rw [takeN_snoc hjo, List.all_append]
        simp)
       have HBJ2 := hid (HBW.out.trans (HBJ.out.mono (by omega)))
       have HCAL := hid (fun W (hW : Below wr.heap.size wr W) => HEQ.out (out.getD j 0) r W (HBJ2.out.trans (hW.mono (by omega))) (by omega) hrn')
       clear hol' hjo
       generalize out.getD j 0 = x at *
       generalize eqRow xs x r = ER at *
       generalize (out.take j).all (fun x => !eqRow xs x r) = AL at *
       cases AL
       ·go_wp2_with fail
        go_roundg (gk - 1)
        case rel => exact ⟨j + 1, by go_num, by omega, by rw [HST1.out]; rfl, HBJ⟩
        case measure => omega
       ·have x0 := (HX2.out.below HBJ.out HX2.out.lt).cell 0 rfl
        have x1 := (HX2.out.below HBJ.out HX2.out.lt).cell 1 rfl
        have x2' := (HX2.out.below HBJ.out HX2.out.lt).cell 2 rfl
        go_wp2_with fail
        with_reducible refine (HCAL.out _ (Below.refl _ _)).mono ?_
        rintro e w5 ⟨rfl, hb5⟩
        have HB5 := hid (HBJ.out.trans (hb5.mono hwj))
        clear hb5 x0 x1 x2' k0
        go_wp2_with fail
        go_roundg (gk - 1)
        case rel => exact ⟨j + 1, by go_num, by omega, by rw [HST1.out]; rfl, HB5⟩
        case measure => omega
      ·obtain rfl : gk = 0 := by omega
       obtain rfl : j = q := by omega
       have HKT : Hid ((out.take j).all (fun x => !eqRow xs x r) = KE out r) := hid (by rw [HKR.out.2, List.take_of_length_le (by have := HOL.out; omega)])
       go_wp2_with fail
       go_meet
       exact ⟨by rw [HKR.out.1, HOL.out], congrArg Value.bool HKT.out, HBJ⟩
    ·-- OpSort
     obtain ⟨k, rfl, hkL⟩ := HKC.out (.inr (.inr rfl))
     have hkL' : (k : Int) < (L : Int) := by omega
     obtain ⟨ba, oa, rfl, hba, hcella⟩ := HR.out (by omega)
     have hba' : ba < B := hba
     have k2 : wo.cell? ⟨ba, oa + k * 2 + 1, none⟩ = some (cv k) := (HBW.out.cell (p := ⟨ba, oa + k * 2 + 1, none⟩) (by show ba < w.heap.size; omega)).trans (hcella k hkL 1 (by omega))
     obtain ⟨ca, ck, hcq, hck1, -, hcell2⟩ := HCL.out k hkL
     rw [HC.out k hkL] at hcq hcell2 hck1
     obtain ⟨b2, o2, rfl, hb2, hcell2⟩ := hcell2 (by omega)
     have hb2' : b2 < B := hb2
     rw [hcq] at k2
     have HCE := hid (fun i (hi : i < n) W (hW : Below w.heap.size w W) => (And.intro ((hW.cell (p := ⟨b2, o2 + i * 2, none⟩) (by show b2 < w.heap.size; omega)).trans (hcell2 i hi 0 (by omega))) ((hW.cell (p := ⟨b2, o2 + i * 2 + 1, none⟩) (by show b2 < w.heap.size; omega)).trans (hcell2 i hi 1 (by omega))) : W.cell? ⟨b2, o2 + i * 2, none⟩ = some (.bool ((xs.getD k Co.z).cells.getD i Cl.z).null) ∧ W.cell? ⟨b2, o2 + i * 2 + 1, none⟩ = some (.string ((xs.getD k Co.z).cells.getD i Cl.z).text)))
     clear hcella hcq hcell2
     have hr' : (r : Int) < (n : Int) := by omega
     have HKR := hid (HK5.out rfl out r)
     have HKA : Hid (AT out r = sortAt (gtC xs k r) out q) := hid (by have h := HKR.out.1; rw [HOL.out] at h; exact h)
     go_wp2_with fail
     go_loopg [7] q (fun N i wr => i = .int .i64 (N : Int) ∧ N ≤ q ∧ Hid (AT out r = sortAt (gtC xs k r) out N) ∧ Hid (Below wo.heap.size wo wr))
     case atStart => exact ⟨rfl, Nat.le_refl _, HKA, hid (Below.refl _ _)⟩
     case round =>
      obtain ⟨rfl, hNq, HSA, HBJ⟩ := hrel
      have hwj := HBJ.out.size
      by_cases hjp : 0 < gk
      ·obtain ⟨pp, rfl⟩ : ∃ pp, gk = pp + 1 := ⟨gk - 1, by omega⟩
       obtain ⟨g, cap, e3, hg, hgz⟩ := HOWN.out.form (by omega)
       obtain ⟨rfl, -, rfl⟩ := Value.slice.inj e3
       clear e3
       have hol' := HOL.out
       have hjo : pp < out.length := by omega
       have hxr := HMEM.out _ (getD_mem hjo 0)
       have HSS : Hid (sortAt (gtC xs k r) out (pp + 1) = if gtC xs k r (out.getD pp 0) = true then sortAt (gtC xs k r) out pp else pp + 1) := hid rfl
       have HGT : Hid (gtC xs k r (out.getD pp 0) = decide (0 < cmpC ((xs.getD k Co.z).cells.getD (out.getD pp 0) Cl.z) ((xs.getD k Co.z).cells.getD r Cl.z))) := hid rfl
       have k0 : wr.cell? ⟨g, pp, none⟩ = some (.int .i64 ((out.getD pp 0 : Nat) : Int)) := (HBJ.out.cell (p := ⟨g, pp, none⟩) hgz).trans ((HOWN.out.cellAt pp (by omega)).trans (iv_at hjo))
       have HBJ2 := hid (HBW.out.trans (HBJ.out.mono (by omega)))
       have hxn : out.getD pp 0 < n := by omega
       obtain ⟨m0, m1⟩ := HCE.out (out.getD pp 0) hxn wr HBJ2.out
       obtain ⟨m2, m3⟩ := HCE.out r hrn' wr HBJ2.out
       clear hol' hjo hxr
       generalize out.getD pp 0 = x at *
       have HCMP := hid (fun W => ref_CompareCells ((xs.getD k Co.z).cells.getD x Cl.z) ((xs.getD k Co.z).cells.getD r Cl.z) W)
       generalize (xs.getD k Co.z).cells.getD x Cl.z = cx at *
       generalize (xs.getD k Co.z).cells.getD r Cl.z = cr at *
       obtain ⟨cn, ct⟩ := cx
       obtain ⟨dn, dt⟩ := cr
       simp only at m0 m1 m2 m3
       generalize cmpC ⟨cn, ct⟩ ⟨dn, dt⟩ = z at *
       have hxn' : (x : Int) < (n : Int) := by omega
       have hw1 : IntKind.i64.wrap ((pp : Int) + 1 - 1) = (pp : Int) := (IntWalk.i64_in _ (by omega)).trans (by omega)
       have hw2 : IntKind.i64.wrap (pp : Int) = (pp : Int) := IntWalk.i64_in _ (by omega)
       have hp1 : (0 : Int) < (pp : Int) + 1 := by omega
       have hd3 : decide ((0 : Int) < (pp : Int) + 1) = true := decide_eq_true (by omega)
       have hpq : (pp : Int) < (q : Int) := by omega
       have hpq2 : pp < q := by omega
       have f0 := fun p : LaterOf wr => p.cell k0
       have f1 := fun p : LaterOf wr => p.cell m0
       have f2 := fun p : LaterOf wr => p.cell m1
       have f3 := fun p : LaterOf wr => p.cell m2
       have f4 := fun p : LaterOf wr => p.cell m3
       have HCALL := hid (fun p : LaterOf wr => later_call p (HCMP.out p.W))
       rw [show (((pp + 1 : Nat)) : Int) = (pp : Int) + 1 from by omega]
       by_cases hz : 0 < z
       ·have hdz : decide ((0 : Int) < z) = true := decide_eq_true hz
        go_upto_region 20 with fail
        refine wp_region_later (by kernel_rfl) (by kernel_rfl) ?_
        repeat (first | go_big_quiet_step ((go_at_call 106; exact HCALL.out _)) | quiet_step ((go_at_call 106; exact HCALL.out _)))
        refine wpQuiet_nil ?_
        intro _ hw'
        obtain ⟨p5, hw''⟩ := hw'
        subst hw''
        have hb5 := p5.hb
        generalize p5.W = w5 at *
        have HB5 : Hid (Below wo.heap.size wo w5) := hid (HBJ.out.trans (hb5.mono hwj))
        clear f0 f1 f2 f3 f4 HCALL hb5 k0 m0 m1 m2 m3
        go_wp2_with fail
        go_roundg pp
        case rel => exact ⟨rfl, by omega, hid (by rw [HSA.out, HSS.out, HGT.out, hdz]; rfl), HB5⟩
        case measure => omega
       ·have hdz : decide ((0 : Int) < z) = false := decide_eq_false hz
        have HAQ : Hid (AT out r = pp + 1) := hid (by rw [HSA.out, HSS.out, HGT.out, hdz]; rfl)
        go_upto_region 20 with fail
        refine wp_region_later (by kernel_rfl) (by kernel_rfl) ?_
        repeat (first | go_big_quiet_step ((go_at_call 106; exact HCALL.out _)) | quiet_step ((go_at_call 106; exact HCALL.out _)))
        refine wpQuiet_nil ?_
        intro _ hw'
        obtain ⟨p5, hw''⟩ := hw'
        subst hw''
        have hb5 := p5.hb
        generalize p5.W = w5 at *
        have HB5 : Hid (Below wo.heap.size wo w5) := hid (HBJ.out.trans (hb5.mono hwj))
        clear f0 f1 f2 f3 f4 HCALL hb5 k0 m0 m1 m2 m3
        go_wp2_with fail
        go_meet
        exact ⟨by rw [HAQ.out]; go_num, congrArg Value.bool HKR.out.2.symm, HB5⟩
      ·obtain rfl : gk = 0 := by omega
       have HS0 : Hid (AT out r = 0) := hid HSA.out
       have hd0 : decide ((0 : Int) < 0) = false := by simp
       go_upto_region 20 with fail
       go_quiet (fail)
       go_wp2_with fail
       go_meet
       exact ⟨by rw [HS0.out], congrArg Value.bool HKR.out.2.symm, hid (by have h1 := HBJ.out; repeat' (first | (with_reducible exact Below.refl _ _) | (with_reducible assumption) | (with_reducible refine below_drewN ?_) | (with_reducible refine Below.alloc ?_ ?_ _) | (with_reducible refine Below.drew ?_) | (with_reducible refine Below.setCell ?_ ?_ _) | (with_reducible refine Below.trans ?_ (Below.mono (by with_reducible assumption) ?_)) | go_size))⟩
   case rest =>
    obtain ⟨rfl, rfl, HBC⟩ := hcut
    have hatl : AT out r ≤ q := by have := HATL.out out r; rw [HOL.out] at this; exact this
    have HSTC := hid (HST.out.later HBC.out)
    have HOWC := hid (own_later HOWN.out HBC.out)
    have hwc := HBC.out.size
    obtain ⟨W2, rfl⟩ : ∃ W2, W2 = wc := ⟨wc, rfl⟩
    clear x2 y0 y1 y2
    cases hke : KE out r
    ·have HSN : Hid (RL (r + 1) = out) := hid (by rw [HSUr.out, HNO.out out r hke])
     clear hke
     go_wp2_with fail
     go_roundg (gk - 1)
     case rel => exact ⟨r + 1, by go_num, by omega, hid (by rw [HSN.out]; exact HSTC.out)⟩
     case measure => omega
    ·have HSN : Hid (RL (r + 1) = out.take (AT out r) ++ r :: out.drop (AT out r)) := hid (by rw [HSUr.out, HYES.out out r hke])
     clear hke
     generalize AT out r = k at *
     have HTL : Hid ((out.take k).length = k) := hid (by rw [List.length_take]; have := HOL.out; omega)
     have HDL : Hid ((out.drop k).length = q - k) := hid (by rw [List.length_drop]; have := HOL.out; omega)
     have hkc : (k : Int) ≤ (yc : Int) := by omega
     have hkq : (k : Int) ≤ (q : Int) := by omega
     clear HEQ HK1 HK2 HK4 HK5 HKC HKK HR HCL HC HX2 HY2
     have hwd : w1.heap.size ≤ W2.drew.heap.size := by show w1.heap.size ≤ W2.heap.size; omega
     have HBD : Hid (Below w1.heap.size w1 W2.drew) := hid (by have h1 := HSTC.out.bel; repeat' (first | (with_reducible exact Below.refl _ _) | (with_reducible assumption) | (with_reducible refine below_drewN ?_) | (with_reducible refine Below.alloc ?_ ?_ _) | (with_reducible refine Below.drew ?_) | (with_reducible refine Below.setCell ?_ ?_ _) | (with_reducible refine Below.trans ?_ (Below.mono (by with_reducible assumption) ?_)) | go_size))
     have HLN : Hid ((out.take k ++ r :: out.drop k).length = k + 1 + (q - k)) := hid (by rw [List.length_append, List.length_cons, HTL.out, HDL.out]; omega)
     rcases Nat.eq_zero_or_pos q with hq0 | hq0
     ·subst hq0
      obtain rfl : k = 0 := by omega
      obtain ⟨rfl, -, rfl⟩ := Value.slice.inj (HST.out.nil HOL.out)
      go_upto_region 23 with fail
      refine wp_region_before (st := 11) (T := fun _ => True) (S := fun _ => True) (by kernel_rfl) ?_
      generalize W2.drew = Wd at *
      refine tB (i := 0) (oi := ?o0_1) (v := ?v0_1) ?hi0_1 ?hq0_1 ?hy0_1 (fun _ => trivial) ?r0_1
      case hi0_1 => (simp only [List.getElem?_toArray, List.getElem?_cons_zero, List.getElem?_cons_succ]; exact rfl)
      case hq0_1 => exact fun _ _ _ h => h
      case hy0_1 =>
       refine Or.inl ⟨by rfl, ?_⟩
       intro w' hSw
       first
       | (go_simp; done)
       | (go_simp; with_reducible rfl)
      try simp only [Act.put, List.setIfInBounds_toArray, List.set]
      refine tB (i := 1) (oi := ?o1_2) (v := ?v1_2) ?hi1_2 ?hq1_2 ?hy1_2 (fun _ => trivial) ?r1_2
      case hi1_2 => (simp only [List.getElem?_toArray, List.getElem?_cons_zero, List.getElem?_cons_succ]; exact rfl)
      case hq1_2 => exact fun _ _ _ h => h
      case hy1_2 =>
       refine Or.inl ⟨by rfl, ?_⟩
       intro w' hSw
       first
       | (go_simp; done)
       | (go_simp; with_reducible rfl)
      try simp only [Act.put, List.setIfInBounds_toArray, List.set]
      refine tB (i := 2) (oi := ?o2_3) (v := ?v2_3) ?hi2_3 ?hq2_3 ?hy2_3 (fun _ => trivial) ?r2_3
      case hi2_3 => (simp only [List.getElem?_toArray, List.getElem?_cons_zero, List.getElem?_cons_succ]; exact rfl)
      case hq2_3 => exact fun _ _ _ h => h
      case hy2_3 =>
       refine Or.inl ⟨by rfl, ?_⟩
       intro w' hSw
       first
       | (go_simp; done)
       | (go_simp; with_reducible rfl)
      try simp only [Act.put, List.setIfInBounds_toArray, List.set]
      refine tB (i := 4) (oi := ?o4_4) (v := ?v4_4) ?hi4_4 ?hq4_4 ?hy4_4 (fun _ => trivial) ?r4_4
      case hi4_4 => (simp only [List.getElem?_toArray, List.getElem?_cons_zero, List.getElem?_cons_succ]; exact rfl)
      case hq4_4 => exact fun _ _ _ h => h
      case hy4_4 =>
       refine Or.inl ⟨by rfl, ?_⟩
       intro w' hSw
       first
       | (go_simp; done)
       | (go_simp; with_reducible rfl)
      try simp only [Act.put, List.setIfInBounds_toArray, List.set]
      refine tB (i := 7) (oi := ?o7_5) (v := ?v7_5) ?hi7_5 ?hq7_5 ?hy7_5 (fun _ => trivial) ?r7_5
      case hi7_5 => (simp only [List.getElem?_toArray, List.getElem?_cons_zero, List.getElem?_cons_succ]; exact rfl)
      case hq7_5 => exact fun _ _ _ h => h
      case hy7_5 =>
       refine Or.inl ⟨by rfl, ?_⟩
       intro w' hSw
       first
       | (go_simp; done)
       | (go_simp; with_reducible rfl)
      try simp only [Act.put, List.setIfInBounds_toArray, List.set]
      refine tB (i := 8) (oi := ?o8_6) (v := ?v8_6) ?hi8_6 ?hq8_6 ?hy8_6 (fun _ => trivial) ?r8_6
      case hi8_6 => (simp only [List.getElem?_toArray, List.getElem?_cons_zero, List.getElem?_cons_succ]; exact rfl)
      case hq8_6 => exact fun _ _ _ h => h
      case hy8_6 =>
       refine Or.inl ⟨by rfl, ?_⟩
       intro w' hSw
       first
       | (go_simp; done)
       | (go_simp; with_reducible rfl)
      try simp only [Act.put, List.setIfInBounds_toArray, List.set]
      refine tB (i := 9) (oi := ?o9_7) (v := ?v9_7) ?hi9_7 ?hq9_7 ?hy9_7 (fun _ => trivial) ?r9_7
      case hi9_7 => (simp only [List.getElem?_toArray, List.getElem?_cons_zero, List.getElem?_cons_succ]; exact rfl)
      case hq9_7 => exact fun _ _ _ h => h
      case hy9_7 =>
       refine Or.inl ⟨by rfl, ?_⟩
       intro w' hSw
       first
       | (go_simp; done)
       | (go_simp; with_reducible rfl)
      try simp only [Act.put, List.setIfInBounds_toArray, List.set]
      refine wpAnyB_ready (rs := [3, 5]) (by kernel_rfl) (by simp) ?_
      refine AllReadyB.cons rfl (fun K hK => ?_) ?_
      ·refine step_append_ints rfl (.const (.slice none 0 0)) (.tmp 107) rfl rfl rfl (out.take 0) HTL.out.symm (by omega) (fun h => absurd h (by omega)) ?_
       intro u8 c8 w8 hown8 hb8
       have hw8 : w1.heap.size ≤ w8.heap.size := Nat.le_trans hwd hb8.size
       have HO8 := hid (own_lower hown8 hwd)
       have HB8 := hid (HBD.out.trans (hb8.mono hwd))
       refine hK.out _ _ (fun _ => trivial) trivial ?_
       try simp only [Act.put, List.setIfInBounds_toArray, List.set]
       clear hK K hown8 hb8
       refine wpAnyB_ready (rs := [5]) (by kernel_rfl) (by simp) ?_
       refine AllReadyB.cons rfl (fun K hK => ?_) AllReadyB.nil
       go_simp
       refine hK.out _ _ (fun _ => trivial) trivial ?_
       try simp only [Act.put, List.setIfInBounds_toArray, List.set]
       clear hK K
       have HOF := hid (HO8.out.alloc (.cells #[.int .i64 (r : Int)] 3))
       have HNF := hid (BoxN.new w8 #[.int .i64 (r : Int)] 3)
       have HBF := hid (HB8.out.alloc hw8 (.cells #[.int .i64 (r : Int)] 3))
       have hwF : w1.heap.size ≤ (w8.alloc (.cells #[.int .i64 (r : Int)] 3)).heap.size := Nat.le_trans hw8 (by simp)
       refine wpAnyB_ready (rs := [6]) (by kernel_rfl) (by simp) ?_
       refine AllReadyB.cons rfl (fun K hK => ?_) AllReadyB.nil
       refine step_append_form _ rfl (.tmp 108) (.tmp 110) 25 25 rfl w1.heap.size 3 3 i0 (.int .i64 0) 1 8 Tryz.underlying25 Tryz.underlying25 hi hz0 hz1 hz2 rfl (by decide) (.slice u8 0 c8) 0 (iv (out.take 0)) rfl HOF.out (some ⟨_, 0, none⟩) 1 1 [.int .i64 (r : Int)] rfl rfl (fun _ => ⟨_, rfl, World.news_of_block HNF.out⟩) (by intro u hu; simp at hu; subst hu; rfl) (by omega) (by unfold maxLen; omega) (by omega) hwF ?_
       intro p9 cap9 w9 hown9 hg9 hat9 hlt9
       have HB9 := hid (HBF.out.grown hg9 hwF (fun b hb => (HOF.out.lt b hb).1))
       have hw9 := HB9.out.size
       refine hK.out _ _ (fun _ => trivial) trivial ?_
       try simp only [Act.put, List.setIfInBounds_toArray, List.set]
       clear hK K
       refine wpAnyB_ready (rs := [10]) (by kernel_rfl) (by simp) ?_
       refine AllReadyB.cons rfl (fun K hK => ?_) AllReadyB.nil
       refine step_append_form _ rfl (.tmp 111) (.tmp 114) 25 25 rfl w1.heap.size 3 3 i0 (.int .i64 0) 1 8 Tryz.underlying25 Tryz.underlying25 hi hz0 hz1 hz2 rfl (by decide) (.slice (some ⟨p9, 0, none⟩) (0 + 1) cap9) (0 + 1) (iv (out.take 0) ++ [.int .i64 (r : Int)]) rfl hown9 none 0 _ (iv (out.drop 0)) rfl (by have h1 := HDL.out; rw [iv_len]; omega) (fun h => absurd h (by omega)) (iv_one _) (by omega) (by unfold maxLen; omega) (by omega) hw9 ?_
       intro p10 cap10 w10 hown10 hg10 hat10 hlt10
       have HB10 := hid (HB9.out.grown hg10 hw9 (fun b hb => (hown9.lt b hb).1))
       have HO10 := hid hown10
       refine hK.out _ _ (fun _ => trivial) trivial ?_
       try simp only [Act.put, List.setIfInBounds_toArray, List.set]
       clear hK K hown9 hg9 hat9 hlt9 hown10 hg10 hat10 hlt10
       refine wpAnyB_ready (rs := [11]) (by kernel_rfl) (by simp) ?_
       refine AllReadyB.cons rfl (fun K hK => ?_) AllReadyB.nil
       go_simp
       refine hK.out _ _ (fun _ => trivial) trivial ?_
       try simp only [Act.put, List.setIfInBounds_toArray, List.set]
       clear hK K
       refine wpAnyB_done (by kernel_rfl) ?_ _
       go_wp2_with fail
       go_roundg (gk - 1)
       case rel => exact ⟨r + 1, by go_num, by omega, hid (by rw [HSN.out]; exact ⟨HB10.out, by rw [HLN.out, iv_split]; exact HO10.out, fun h => by rw [HLN.out] at h; omega⟩)⟩
       case measure => omega
      refine AllReadyB.cons rfl (fun K hK => ?_) ?_
      ·go_simp
       refine hK.out _ _ (fun _ => trivial) trivial ?_
       try simp only [Act.put, List.setIfInBounds_toArray, List.set]
       clear hK K
       have hwB : w1.heap.size ≤ (Wd.alloc (.cells #[.int .i64 (r : Int)] 3)).heap.size := Nat.le_trans hwd (by simp)
       have HBB := hid (HBD.out.alloc hwd (.cells #[.int .i64 (r : Int)] 3))
       have HNB := hid (BoxN.new Wd #[.int .i64 (r : Int)] 3)
       generalize hWB : Wd.alloc (.cells #[.int .i64 (r : Int)] 3) = WB at *
       refine wpAnyB_ready (rs := [3]) (by kernel_rfl) (by simp) ?_
       refine AllReadyB.cons rfl (fun K hK => ?_) AllReadyB.nil
       ·refine step_append_ints rfl (.const (.slice none 0 0)) (.tmp 107) rfl rfl rfl (out.take 0) HTL.out.symm (by omega) (fun h => absurd h (by omega)) ?_
        intro u8 c8 w8 hown8 hb8
        have hw8 : w1.heap.size ≤ w8.heap.size := Nat.le_trans hwB hb8.size
        have HO8 := hid (own_lower hown8 hwB)
        have HB8 := hid (HBB.out.trans (hb8.mono hwB))
        refine hK.out _ _ (fun _ => trivial) trivial ?_
        try simp only [Act.put, List.setIfInBounds_toArray, List.set]
        have HOF := HO8
        have HNF := hid (HNB.out.below hb8 HNB.out.lt)
        have HBF := HB8
        have hwF := hw8
        clear hK K hown8 hb8
        refine wpAnyB_ready (rs := [6]) (by kernel_rfl) (by simp) ?_
        refine AllReadyB.cons rfl (fun K hK => ?_) AllReadyB.nil
        refine step_append_form _ rfl (.tmp 108) (.tmp 110) 25 25 rfl w1.heap.size 3 3 i0 (.int .i64 0) 1 8 Tryz.underlying25 Tryz.underlying25 hi hz0 hz1 hz2 rfl (by decide) (.slice u8 0 c8) 0 (iv (out.take 0)) rfl HOF.out (some ⟨_, 0, none⟩) 1 1 [.int .i64 (r : Int)] rfl rfl (fun _ => ⟨_, rfl, World.news_of_block HNF.out⟩) (by intro u hu; simp at hu; subst hu; rfl) (by omega) (by unfold maxLen; omega) (by omega) hwF ?_
        intro p9 cap9 w9 hown9 hg9 hat9 hlt9
        have HB9 := hid (HBF.out.grown hg9 hwF (fun b hb => (HOF.out.lt b hb).1))
        have hw9 := HB9.out.size
        refine hK.out _ _ (fun _ => trivial) trivial ?_
        try simp only [Act.put, List.setIfInBounds_toArray, List.set]
        clear hK K
        refine wpAnyB_ready (rs := [10]) (by kernel_rfl) (by simp) ?_
        refine AllReadyB.cons rfl (fun K hK => ?_) AllReadyB.nil
        refine step_append_form _ rfl (.tmp 111) (.tmp 114) 25 25 rfl w1.heap.size 3 3 i0 (.int .i64 0) 1 8 Tryz.underlying25 Tryz.underlying25 hi hz0 hz1 hz2 rfl (by decide) (.slice (some ⟨p9, 0, none⟩) (0 + 1) cap9) (0 + 1) (iv (out.take 0) ++ [.int .i64 (r : Int)]) rfl hown9 none 0 _ (iv (out.drop 0)) rfl (by have h1 := HDL.out; rw [iv_len]; omega) (fun h => absurd h (by omega)) (iv_one _) (by omega) (by unfold maxLen; omega) (by omega) hw9 ?_
        intro p10 cap10 w10 hown10 hg10 hat10 hlt10
        have HB10 := hid (HB9.out.grown hg10 hw9 (fun b hb => (hown9.lt b hb).1))
        have HO10 := hid hown10
        refine hK.out _ _ (fun _ => trivial) trivial ?_
        try simp only [Act.put, List.setIfInBounds_toArray, List.set]
        clear hK K hown9 hg9 hat9 hlt9 hown10 hg10 hat10 hlt10
        refine wpAnyB_ready (rs := [11]) (by kernel_rfl) (by simp) ?_
        refine AllReadyB.cons rfl (fun K hK => ?_) AllReadyB.nil
        go_simp
        refine hK.out _ _ (fun _ => trivial) trivial ?_
        try simp only [Act.put, List.setIfInBounds_toArray, List.set]
        clear hK K
        refine wpAnyB_done (by kernel_rfl) ?_ _
        go_wp2_with fail
        go_roundg (gk - 1)
        case rel => exact ⟨r + 1, by go_num, by omega, hid (by rw [HSN.out]; exact ⟨HB10.out, by rw [HLN.out, iv_split]; exact HO10.out, fun h => by rw [HLN.out] at h; omega⟩)⟩
        case measure => omega
      exact AllReadyB.nil
     ·obtain ⟨g, cap, e3, hg, hgz⟩ := HOWC.out.form hq0
      obtain ⟨rfl, -, rfl⟩ := Value.slice.inj e3
      clear e3
      have hgd : g < W2.drew.heap.size := hgz
      have hcg : ∀ i, i < q → W2.drew.cell? ⟨g, i, none⟩ = some (natF out i) := fun i hi => (HOWC.out.cellAt i (by omega)).trans (iv_at (by rw [HOL.out]; exact hi))
      by_cases hck : yc = k
      ·subst hck
       obtain rfl : q = yc := by omega
       have HLN : Hid ((out.take q ++ r :: out.drop q).length = q + 1 + 0) := hid (by rw [HLN.out]; omega)
       go_upto_region 23 with fail
       refine wp_region_before (st := 11) (T := fun _ => True) (S := fun _ => True) (by kernel_rfl) ?_
       generalize W2.drew = Wd at *
       refine tB (i := 0) (oi := ?o0_8) (v := ?v0_8) ?hi0_8 ?hq0_8 ?hy0_8 (fun _ => trivial) ?r0_8
       case hi0_8 => (simp only [List.getElem?_toArray, List.getElem?_cons_zero, List.getElem?_cons_succ]; exact rfl)
       case hq0_8 => exact fun _ _ _ h => h
       case hy0_8 =>
        refine Or.inl ⟨by rfl, ?_⟩
        intro w' hSw
        first
        | (go_simp; done)
        | (go_simp; with_reducible rfl)
       try simp only [Act.put, List.setIfInBounds_toArray, List.set]
       refine tB (i := 1) (oi := ?o1_9) (v := ?v1_9) ?hi1_9 ?hq1_9 ?hy1_9 (fun _ => trivial) ?r1_9
       case hi1_9 => (simp only [List.getElem?_toArray, List.getElem?_cons_zero, List.getElem?_cons_succ]; exact rfl)
       case hq1_9 => exact fun _ _ _ h => h
       case hy1_9 =>
        refine Or.inl ⟨by rfl, ?_⟩
        intro w' hSw
        first
        | (go_simp; done)
        | (go_simp; with_reducible rfl)
       try simp only [Act.put, List.setIfInBounds_toArray, List.set]
       refine tB (i := 2) (oi := ?o2_10) (v := ?v2_10) ?hi2_10 ?hq2_10 ?hy2_10 (fun _ => trivial) ?r2_10
       case hi2_10 => (simp only [List.getElem?_toArray, List.getElem?_cons_zero, List.getElem?_cons_succ]; exact rfl)
       case hq2_10 => exact fun _ _ _ h => h
       case hy2_10 =>
        refine Or.inl ⟨by rfl, ?_⟩
        intro w' hSw
        first
        | (go_simp; done)
        | (go_simp; with_reducible rfl)
       try simp only [Act.put, List.setIfInBounds_toArray, List.set]
       refine tB (i := 4) (oi := ?o4_11) (v := ?v4_11) ?hi4_11 ?hq4_11 ?hy4_11 (fun _ => trivial) ?r4_11
       case hi4_11 => (simp only [List.getElem?_toArray, List.getElem?_cons_zero, List.getElem?_cons_succ]; exact rfl)
       case hq4_11 => exact fun _ _ _ h => h
       case hy4_11 =>
        refine Or.inl ⟨by rfl, ?_⟩
        intro w' hSw
        first
        | (go_simp; done)
        | (go_simp; with_reducible rfl)
       try simp only [Act.put, List.setIfInBounds_toArray, List.set]
       refine tB (i := 7) (oi := ?o7_12) (v := ?v7_12) ?hi7_12 ?hq7_12 ?hy7_12 (fun _ => trivial) ?r7_12
       case hi7_12 => (simp only [List.getElem?_toArray, List.getElem?_cons_zero, List.getElem?_cons_succ]; exact rfl)
       case hq7_12 => exact fun _ _ _ h => h
       case hy7_12 =>
        refine Or.inl ⟨by rfl, ?_⟩
        intro w' hSw
        first
        | (go_simp; done)
        | (go_simp; with_reducible rfl)
       try simp only [Act.put, List.setIfInBounds_toArray, List.set]
       refine tB (i := 8) (oi := ?o8_13) (v := ?v8_13) ?hi8_13 ?hq8_13 ?hy8_13 (fun _ => trivial) ?r8_13
       case hi8_13 => (simp only [List.getElem?_toArray, List.getElem?_cons_zero, List.getElem?_cons_succ]; exact rfl)
       case hq8_13 => exact fun _ _ _ h => h
       case hy8_13 =>
        refine Or.inl ⟨by rfl, ?_⟩
        intro w' hSw
        first
        | (go_simp; done)
        | (go_simp; with_reducible rfl)
       try simp only [Act.put, List.setIfInBounds_toArray, List.set]
       refine tB (i := 9) (oi := ?o9_14) (v := ?v9_14) ?hi9_14 ?hq9_14 ?hy9_14 (fun _ => trivial) ?r9_14
       case hi9_14 => (simp only [List.getElem?_toArray, List.getElem?_cons_zero, List.getElem?_cons_succ]; exact rfl)
       case hq9_14 => exact fun _ _ _ h => h
       case hy9_14 =>
        refine Or.inl ⟨by rfl, ?_⟩
        intro w' hSw
        first
        | (go_simp; done)
        | (go_simp; with_reducible rfl)
       try simp only [Act.put, List.setIfInBounds_toArray, List.set]
       refine wpAnyB_ready (rs := [3, 5]) (by kernel_rfl) (by simp) ?_
       refine AllReadyB.cons rfl (fun K hK => ?_) ?_
       ·refine step_append_ints rfl (.const (.slice none 0 0)) (.tmp 107) rfl rfl rfl (out.take q) HTL.out.symm (by omega) (fun _ => ⟨g, 0, rfl, fun i hi => by rw [Nat.zero_add]; exact (hcg i (by omega)).trans (by rw [natF_take hi])⟩) ?_
        intro u8 c8 w8 hown8 hb8
        have hw8 : w1.heap.size ≤ w8.heap.size := Nat.le_trans hwd hb8.size
        have HO8 := hid (own_lower hown8 hwd)
        have HF8 : Hid (∀ b, (Value.slice u8 q c8).ownBlock = some b → g < b) := hid (fun b hb => Nat.lt_of_lt_of_le hgd (hown8.lt b hb).1)
        have HB8 := hid (HBD.out.trans (hb8.mono hwd))
        have hc8 : ∀ i, i < q → w8.cell? ⟨g, i, none⟩ = some (natF out i) := fun i hi => (hb8.cell (p := ⟨g, i, none⟩) hgd).trans (hcg i hi)
        have hg8 : g < w8.heap.size := Nat.lt_of_lt_of_le hgd hb8.size
        refine hK.out _ _ (fun _ => trivial) trivial ?_
        try simp only [Act.put, List.setIfInBounds_toArray, List.set]
        clear hK K hown8 hb8
        refine wpAnyB_ready (rs := [5]) (by kernel_rfl) (by simp) ?_
        refine AllReadyB.cons rfl (fun K hK => ?_) AllReadyB.nil
        go_simp
        refine hK.out _ _ (fun _ => trivial) trivial ?_
        try simp only [Act.put, List.setIfInBounds_toArray, List.set]
        clear hK K
        have HOF := hid (HO8.out.alloc (.cells #[.int .i64 (r : Int)] 3))
        have HNF := hid (BoxN.new w8 #[.int .i64 (r : Int)] 3)
        have HBF := hid (HB8.out.alloc hw8 (.cells #[.int .i64 (r : Int)] 3))
        have hwF : w1.heap.size ≤ (w8.alloc (.cells #[.int .i64 (r : Int)] 3)).heap.size := Nat.le_trans hw8 (by simp)
        have hcF : ∀ i, i < q → (w8.alloc (.cells #[.int .i64 (r : Int)] 3)).cell? ⟨g, i, none⟩ = some (natF out i) := fun i hi => (World.cell?_alloc_lt _ _ ⟨g, i, none⟩ hg8).trans (hc8 i hi)
        have hgF : g < (w8.alloc (.cells #[.int .i64 (r : Int)] 3)).heap.size := Nat.lt_of_lt_of_le hg8 (by simp)
        refine wpAnyB_ready (rs := [6]) (by kernel_rfl) (by simp) ?_
        refine AllReadyB.cons rfl (fun K hK => ?_) AllReadyB.nil
        refine step_append_form _ rfl (.tmp 108) (.tmp 110) 25 25 rfl w1.heap.size 3 3 i0 (.int .i64 0) 1 8 Tryz.underlying25 Tryz.underlying25 hi hz0 hz1 hz2 rfl (by decide) (.slice u8 q c8) q (iv (out.take q)) rfl HOF.out (some ⟨_, 0, none⟩) 1 1 [.int .i64 (r : Int)] rfl rfl (fun _ => ⟨_, rfl, World.news_of_block HNF.out⟩) (by intro u hu; simp at hu; subst hu; rfl) (by omega) (by unfold maxLen; omega) (by omega) hwF ?_
        intro p9 cap9 w9 hown9 hg9 hat9 hlt9
        have HB9 := hid (HBF.out.grown hg9 hwF (fun b hb => (HOF.out.lt b hb).1))
        have hw9 := HB9.out.size
        have hc9 : ∀ i, i < q → w9.cell? ⟨g, i, none⟩ = some (natF out i) := fun i hi => (hg9.cell_far ⟨g, i, none⟩ hgF (fun e => by have := HF8.out g e.symm; omega)).trans (hcF i hi)
        refine hK.out _ _ (fun _ => trivial) trivial ?_
        try simp only [Act.put, List.setIfInBounds_toArray, List.set]
        clear hK K
        refine wpAnyB_ready (rs := [10]) (by kernel_rfl) (by simp) ?_
        refine AllReadyB.cons rfl (fun K hK => ?_) AllReadyB.nil
        refine step_append_form _ rfl (.tmp 111) (.tmp 114) 25 25 rfl w1.heap.size 3 3 i0 (.int .i64 0) 1 8 Tryz.underlying25 Tryz.underlying25 hi hz0 hz1 hz2 rfl (by decide) (.slice (some ⟨p9, 0, none⟩) (q + 1) cap9) (q + 1) (iv (out.take q) ++ [.int .i64 (r : Int)]) rfl hown9 (some ⟨g, 0, none⟩) 0 _ (iv (out.drop q)) rfl (by have h1 := HDL.out; rw [iv_len]; omega) (fun h => absurd h (by omega)) (iv_one _) (by omega) (by unfold maxLen; omega) (by omega) hw9 ?_
        intro p10 cap10 w10 hown10 hg10 hat10 hlt10
        have HB10 := hid (HB9.out.grown hg10 hw9 (fun b hb => (hown9.lt b hb).1))
        have HO10 := hid hown10
        refine hK.out _ _ (fun _ => trivial) trivial ?_
        try simp only [Act.put, List.setIfInBounds_toArray, List.set]
        clear hK K hown9 hg9 hat9 hlt9 hown10 hg10 hat10 hlt10
        refine wpAnyB_ready (rs := [11]) (by kernel_rfl) (by simp) ?_
        refine AllReadyB.cons rfl (fun K hK => ?_) AllReadyB.nil
        go_simp
        refine hK.out _ _ (fun _ => trivial) trivial ?_
        try simp only [Act.put, List.setIfInBounds_toArray, List.set]
        clear hK K
        refine wpAnyB_done (by kernel_rfl) ?_ _
        go_wp2_with fail
        go_roundg (gk - 1)
        case rel => exact ⟨r + 1, by go_num, by omega, hid (by rw [HSN.out]; exact ⟨HB10.out, by rw [HLN.out, iv_split]; exact HO10.out, fun h => by rw [HLN.out] at h; omega⟩)⟩
        case measure => omega
       refine AllReadyB.cons rfl (fun K hK => ?_) ?_
       ·go_simp
        refine hK.out _ _ (fun _ => trivial) trivial ?_
        try simp only [Act.put, List.setIfInBounds_toArray, List.set]
        clear hK K
        have hwB : w1.heap.size ≤ (Wd.alloc (.cells #[.int .i64 (r : Int)] 3)).heap.size := Nat.le_trans hwd (by simp)
        have HBB := hid (HBD.out.alloc hwd (.cells #[.int .i64 (r : Int)] 3))
        have HNB := hid (BoxN.new Wd #[.int .i64 (r : Int)] 3)
        have hcgB : ∀ i, i < q → (Wd.alloc (.cells #[.int .i64 (r : Int)] 3)).cell? ⟨g, i, none⟩ = some (natF out i) := fun i hi => (World.cell?_alloc_lt _ _ ⟨g, i, none⟩ hgd).trans (hcg i hi)
        have hgdB : g < (Wd.alloc (.cells #[.int .i64 (r : Int)] 3)).heap.size := Nat.lt_of_lt_of_le hgd (by simp)
        generalize hWB : Wd.alloc (.cells #[.int .i64 (r : Int)] 3) = WB at *
        refine wpAnyB_ready (rs := [3]) (by kernel_rfl) (by simp) ?_
        refine AllReadyB.cons rfl (fun K hK => ?_) AllReadyB.nil
        ·refine step_append_ints rfl (.const (.slice none 0 0)) (.tmp 107) rfl rfl rfl (out.take q) HTL.out.symm (by omega) (fun _ => ⟨g, 0, rfl, fun i hi => by rw [Nat.zero_add]; exact (hcgB i (by omega)).trans (by rw [natF_take hi])⟩) ?_
         intro u8 c8 w8 hown8 hb8
         have hw8 : w1.heap.size ≤ w8.heap.size := Nat.le_trans hwB hb8.size
         have HO8 := hid (own_lower hown8 hwB)
         have HF8 : Hid (∀ b, (Value.slice u8 q c8).ownBlock = some b → g < b) := hid (fun b hb => Nat.lt_of_lt_of_le hgdB (hown8.lt b hb).1)
         have HB8 := hid (HBB.out.trans (hb8.mono hwB))
         refine hK.out _ _ (fun _ => trivial) trivial ?_
         try simp only [Act.put, List.setIfInBounds_toArray, List.set]
         have HOF := HO8
         have HNF := hid (HNB.out.below hb8 HNB.out.lt)
         have HBF := HB8
         have hwF := hw8
         have hcF : ∀ i, i < q → w8.cell? ⟨g, i, none⟩ = some (natF out i) := fun i hi => (hb8.cell (p := ⟨g, i, none⟩) hgdB).trans (hcgB i hi)
         have hgF : g < w8.heap.size := Nat.lt_of_lt_of_le hgdB hb8.size
         clear hK K hown8 hb8
         refine wpAnyB_ready (rs := [6]) (by kernel_rfl) (by simp) ?_
         refine AllReadyB.cons rfl (fun K hK => ?_) AllReadyB.nil
         refine step_append_form _ rfl (.tmp 108) (.tmp 110) 25 25 rfl w1.heap.size 3 3 i0 (.int .i64 0) 1 8 Tryz.underlying25 Tryz.underlying25 hi hz0 hz1 hz2 rfl (by decide) (.slice u8 q c8) q (iv (out.take q)) rfl HOF.out (some ⟨_, 0, none⟩) 1 1 [.int .i64 (r : Int)] rfl rfl (fun _ => ⟨_, rfl, World.news_of_block HNF.out⟩) (by intro u hu; simp at hu; subst hu; rfl) (by omega) (by unfold maxLen; omega) (by omega) hwF ?_
         intro p9 cap9 w9 hown9 hg9 hat9 hlt9
         have HB9 := hid (HBF.out.grown hg9 hwF (fun b hb => (HOF.out.lt b hb).1))
         have hw9 := HB9.out.size
         have hc9 : ∀ i, i < q → w9.cell? ⟨g, i, none⟩ = some (natF out i) := fun i hi => (hg9.cell_far ⟨g, i, none⟩ hgF (fun e => by have := HF8.out g e.symm; omega)).trans (hcF i hi)
         refine hK.out _ _ (fun _ => trivial) trivial ?_
         try simp only [Act.put, List.setIfInBounds_toArray, List.set]
         clear hK K
         refine wpAnyB_ready (rs := [10]) (by kernel_rfl) (by simp) ?_
         refine AllReadyB.cons rfl (fun K hK => ?_) AllReadyB.nil
         refine step_append_form _ rfl (.tmp 111) (.tmp 114) 25 25 rfl w1.heap.size 3 3 i0 (.int .i64 0) 1 8 Tryz.underlying25 Tryz.underlying25 hi hz0 hz1 hz2 rfl (by decide) (.slice (some ⟨p9, 0, none⟩) (q + 1) cap9) (q + 1) (iv (out.take q) ++ [.int .i64 (r : Int)]) rfl hown9 (some ⟨g, 0, none⟩) 0 _ (iv (out.drop q)) rfl (by have h1 := HDL.out; rw [iv_len]; omega) (fun h => absurd h (by omega)) (iv_one _) (by omega) (by unfold maxLen; omega) (by omega) hw9 ?_
         intro p10 cap10 w10 hown10 hg10 hat10 hlt10
         have HB10 := hid (HB9.out.grown hg10 hw9 (fun b hb => (hown9.lt b hb).1))
         have HO10 := hid hown10
         refine hK.out _ _ (fun _ => trivial) trivial ?_
         try simp only [Act.put, List.setIfInBounds_toArray, List.set]
         clear hK K hown9 hg9 hat9 hlt9 hown10 hg10 hat10 hlt10
         refine wpAnyB_ready (rs := [11]) (by kernel_rfl) (by simp) ?_
         refine AllReadyB.cons rfl (fun K hK => ?_) AllReadyB.nil
         go_simp
         refine hK.out _ _ (fun _ => trivial) trivial ?_
         try simp only [Act.put, List.setIfInBounds_toArray, List.set]
         clear hK K
         refine wpAnyB_done (by kernel_rfl) ?_ _
         go_wp2_with fail
         go_roundg (gk - 1)
         case rel => exact ⟨r + 1, by go_num, by omega, hid (by rw [HSN.out]; exact ⟨HB10.out, by rw [HLN.out, iv_split]; exact HO10.out, fun h => by rw [HLN.out] at h; omega⟩)⟩
         case measure => omega
       exact AllReadyB.nil
      ·have hck2 : ((yc : Int) == (k : Int)) = false := by simp; omega
       go_upto_region 23 with fail
       refine wp_region_before (st := 11) (T := fun _ => True) (S := fun _ => True) (by kernel_rfl) ?_
       generalize W2.drew = Wd at *
       refine tB (i := 0) (oi := ?o0_15) (v := ?v0_15) ?hi0_15 ?hq0_15 ?hy0_15 (fun _ => trivial) ?r0_15
       case hi0_15 => (simp only [List.getElem?_toArray, List.getElem?_cons_zero, List.getElem?_cons_succ]; exact rfl)
       case hq0_15 => exact fun _ _ _ h => h
       case hy0_15 =>
        refine Or.inl ⟨by rfl, ?_⟩
        intro w' hSw
        first
        | (go_simp; done)
        | (go_simp; with_reducible rfl)
       try simp only [Act.put, List.setIfInBounds_toArray, List.set]
       refine tB (i := 1) (oi := ?o1_16) (v := ?v1_16) ?hi1_16 ?hq1_16 ?hy1_16 (fun _ => trivial) ?r1_16
       case hi1_16 => (simp only [List.getElem?_toArray, List.getElem?_cons_zero, List.getElem?_cons_succ]; exact rfl)
       case hq1_16 => exact fun _ _ _ h => h
       case hy1_16 =>
        refine Or.inl ⟨by rfl, ?_⟩
        intro w' hSw
        first
        | (go_simp; done)
        | (go_simp; with_reducible rfl)
       try simp only [Act.put, List.setIfInBounds_toArray, List.set]
       refine tB (i := 2) (oi := ?o2_17) (v := ?v2_17) ?hi2_17 ?hq2_17 ?hy2_17 (fun _ => trivial) ?r2_17
       case hi2_17 => (simp only [List.getElem?_toArray, List.getElem?_cons_zero, List.getElem?_cons_succ]; exact rfl)
       case hq2_17 => exact fun _ _ _ h => h
       case hy2_17 =>
        refine Or.inl ⟨by rfl, ?_⟩
        intro w' hSw
        first
        | (go_simp; done)
        | (go_simp; with_reducible rfl)
       try simp only [Act.put, List.setIfInBounds_toArray, List.set]
       refine tB (i := 4) (oi := ?o4_18) (v := ?v4_18) ?hi4_18 ?hq4_18 ?hy4_18 (fun _ => trivial) ?r4_18
       case hi4_18 => (simp only [List.getElem?_toArray, List.getElem?_cons_zero, List.getElem?_cons_succ]; exact rfl)
       case hq4_18 => exact fun _ _ _ h => h
       case hy4_18 =>
        refine Or.inl ⟨by rfl, ?_⟩
        intro w' hSw
        first
        | (go_simp; done)
        | (go_simp; with_reducible rfl)
       try simp only [Act.put, List.setIfInBounds_toArray, List.set]
       refine tB (i := 7) (oi := ?o7_19) (v := ?v7_19) ?hi7_19 ?hq7_19 ?hy7_19 (fun _ => trivial) ?r7_19
       case hi7_19 => (simp only [List.getElem?_toArray, List.getElem?_cons_zero, List.getElem?_cons_succ]; exact rfl)
       case hq7_19 => exact fun _ _ _ h => h
       case hy7_19 =>
        refine Or.inl ⟨by rfl, ?_⟩
        intro w' hSw
        first
        | (go_simp; done)
        | (go_simp; with_reducible rfl)
       try simp only [Act.put, List.setIfInBounds_toArray, List.set]
       refine tB (i := 8) (oi := ?o8_20) (v := ?v8_20) ?hi8_20 ?hq8_20 ?hy8_20 (fun _ => trivial) ?r8_20
       case hi8_20 => (simp only [List.getElem?_toArray, List.getElem?_cons_zero, List.getElem?_cons_succ]; exact rfl)
       case hq8_20 => exact fun _ _ _ h => h
       case hy8_20 =>
        refine Or.inl ⟨by rfl, ?_⟩
        intro w' hSw
        first
        | (go_simp; done)
        | (go_simp; with_reducible rfl)
       try simp only [Act.put, List.setIfInBounds_toArray, List.set]
       refine tB (i := 9) (oi := ?o9_21) (v := ?v9_21) ?hi9_21 ?hq9_21 ?hy9_21 (fun _ => trivial) ?r9_21
       case hi9_21 => (simp only [List.getElem?_toArray, List.getElem?_cons_zero, List.getElem?_cons_succ]; exact rfl)
       case hq9_21 => exact fun _ _ _ h => h
       case hy9_21 =>
        refine Or.inl ⟨by rfl, ?_⟩
        intro w' hSw
        first
        | (go_simp; done)
        | (go_simp; with_reducible rfl)
       try simp only [Act.put, List.setIfInBounds_toArray, List.set]
       refine wpAnyB_ready (rs := [3, 5]) (by kernel_rfl) (by simp) ?_
       refine AllReadyB.cons rfl (fun K hK => ?_) ?_
       ·refine step_append_ints rfl (.const (.slice none 0 0)) (.tmp 107) rfl rfl rfl (out.take k) HTL.out.symm (by omega) (fun _ => ⟨g, 0, rfl, fun i hi => by rw [Nat.zero_add]; exact (hcg i (by omega)).trans (by rw [natF_take hi])⟩) ?_
        intro u8 c8 w8 hown8 hb8
        have hw8 : w1.heap.size ≤ w8.heap.size := Nat.le_trans hwd hb8.size
        have HO8 := hid (own_lower hown8 hwd)
        have HF8 : Hid (∀ b, (Value.slice u8 k c8).ownBlock = some b → g < b) := hid (fun b hb => Nat.lt_of_lt_of_le hgd (hown8.lt b hb).1)
        have HB8 := hid (HBD.out.trans (hb8.mono hwd))
        have hc8 : ∀ i, i < q → w8.cell? ⟨g, i, none⟩ = some (natF out i) := fun i hi => (hb8.cell (p := ⟨g, i, none⟩) hgd).trans (hcg i hi)
        have hg8 : g < w8.heap.size := Nat.lt_of_lt_of_le hgd hb8.size
        refine hK.out _ _ (fun _ => trivial) trivial ?_
        try simp only [Act.put, List.setIfInBounds_toArray, List.set]
        clear hK K hown8 hb8
        refine wpAnyB_ready (rs := [5]) (by kernel_rfl) (by simp) ?_
        refine AllReadyB.cons rfl (fun K hK => ?_) AllReadyB.nil
        go_simp
        refine hK.out _ _ (fun _ => trivial) trivial ?_
        try simp only [Act.put, List.setIfInBounds_toArray, List.set]
        clear hK K
        have HOF := hid (HO8.out.alloc (.cells #[.int .i64 (r : Int)] 3))
        have HNF := hid (BoxN.new w8 #[.int .i64 (r : Int)] 3)
        have HBF := hid (HB8.out.alloc hw8 (.cells #[.int .i64 (r : Int)] 3))
        have hwF : w1.heap.size ≤ (w8.alloc (.cells #[.int .i64 (r : Int)] 3)).heap.size := Nat.le_trans hw8 (by simp)
        have hcF : ∀ i, i < q → (w8.alloc (.cells #[.int .i64 (r : Int)] 3)).cell? ⟨g, i, none⟩ = some (natF out i) := fun i hi => (World.cell?_alloc_lt _ _ ⟨g, i, none⟩ hg8).trans (hc8 i hi)
        have hgF : g < (w8.alloc (.cells #[.int .i64 (r : Int)] 3)).heap.size := Nat.lt_of_lt_of_le hg8 (by simp)
        refine wpAnyB_ready (rs := [6]) (by kernel_rfl) (by simp) ?_
        refine AllReadyB.cons rfl (fun K hK => ?_) AllReadyB.nil
        refine step_append_form _ rfl (.tmp 108) (.tmp 110) 25 25 rfl w1.heap.size 3 3 i0 (.int .i64 0) 1 8 Tryz.underlying25 Tryz.underlying25 hi hz0 hz1 hz2 rfl (by decide) (.slice u8 k c8) k (iv (out.take k)) rfl HOF.out (some ⟨_, 0, none⟩) 1 1 [.int .i64 (r : Int)] rfl rfl (fun _ => ⟨_, rfl, World.news_of_block HNF.out⟩) (by intro u hu; simp at hu; subst hu; rfl) (by omega) (by unfold maxLen; omega) (by omega) hwF ?_
        intro p9 cap9 w9 hown9 hg9 hat9 hlt9
        have HB9 := hid (HBF.out.grown hg9 hwF (fun b hb => (HOF.out.lt b hb).1))
        have hw9 := HB9.out.size
        have hc9 : ∀ i, i < q → w9.cell? ⟨g, i, none⟩ = some (natF out i) := fun i hi => (hg9.cell_far ⟨g, i, none⟩ hgF (fun e => by have := HF8.out g e.symm; omega)).trans (hcF i hi)
        refine hK.out _ _ (fun _ => trivial) trivial ?_
        try simp only [Act.put, List.setIfInBounds_toArray, List.set]
        clear hK K
        refine wpAnyB_ready (rs := [10]) (by kernel_rfl) (by simp) ?_
        refine AllReadyB.cons rfl (fun K hK => ?_) AllReadyB.nil
        refine step_append_form _ rfl (.tmp 111) (.tmp 114) 25 25 rfl w1.heap.size 3 3 i0 (.int .i64 0) 1 8 Tryz.underlying25 Tryz.underlying25 hi hz0 hz1 hz2 rfl (by decide) (.slice (some ⟨p9, 0, none⟩) (k + 1) cap9) (k + 1) (iv (out.take k) ++ [.int .i64 (r : Int)]) rfl hown9 (some ⟨g, k, none⟩) (q - k) _ (iv (out.drop k)) rfl (by have h1 := HDL.out; rw [iv_len]; omega) (fun _ => ⟨_, rfl, fun j u hu => by rw [Addr.add_lit]; exact drop_at hc9 HOL.out hu⟩) (iv_one _) (by omega) (by unfold maxLen; omega) (by omega) hw9 ?_
        intro p10 cap10 w10 hown10 hg10 hat10 hlt10
        have HB10 := hid (HB9.out.grown hg10 hw9 (fun b hb => (hown9.lt b hb).1))
        have HO10 := hid hown10
        refine hK.out _ _ (fun _ => trivial) trivial ?_
        try simp only [Act.put, List.setIfInBounds_toArray, List.set]
        clear hK K hown9 hg9 hat9 hlt9 hown10 hg10 hat10 hlt10
        refine wpAnyB_ready (rs := [11]) (by kernel_rfl) (by simp) ?_
        refine AllReadyB.cons rfl (fun K hK => ?_) AllReadyB.nil
        go_simp
        refine hK.out _ _ (fun _ => trivial) trivial ?_
        try simp only [Act.put, List.setIfInBounds_toArray, List.set]
        clear hK K
        refine wpAnyB_done (by kernel_rfl) ?_ _
        go_wp2_with fail
        go_roundg (gk - 1)
        case rel => exact ⟨r + 1, by go_num, by omega, hid (by rw [HSN.out]; exact ⟨HB10.out, by rw [HLN.out, iv_split]; exact HO10.out, fun h => by rw [HLN.out] at h; omega⟩)⟩
        case measure => omega
       refine AllReadyB.cons rfl (fun K hK => ?_) ?_
       ·go_simp
        refine hK.out _ _ (fun _ => trivial) trivial ?_
        try simp only [Act.put, List.setIfInBounds_toArray, List.set]
        clear hK K
        have hwB : w1.heap.size ≤ (Wd.alloc (.cells #[.int .i64 (r : Int)] 3)).heap.size := Nat.le_trans hwd (by simp)
        have HBB := hid (HBD.out.alloc hwd (.cells #[.int .i64 (r : Int)] 3))
        have HNB := hid (BoxN.new Wd #[.int .i64 (r : Int)] 3)
        have hcgB : ∀ i, i < q → (Wd.alloc (.cells #[.int .i64 (r : Int)] 3)).cell? ⟨g, i, none⟩ = some (natF out i) := fun i hi => (World.cell?_alloc_lt _ _ ⟨g, i, none⟩ hgd).trans (hcg i hi)
        have hgdB : g < (Wd.alloc (.cells #[.int .i64 (r : Int)] 3)).heap.size := Nat.lt_of_lt_of_le hgd (by simp)
        generalize hWB : Wd.alloc (.cells #[.int .i64 (r : Int)] 3) = WB at *
        refine wpAnyB_ready (rs := [3]) (by kernel_rfl) (by simp) ?_
        refine AllReadyB.cons rfl (fun K hK => ?_) AllReadyB.nil
        ·refine step_append_ints rfl (.const (.slice none 0 0)) (.tmp 107) rfl rfl rfl (out.take k) HTL.out.symm (by omega) (fun _ => ⟨g, 0, rfl, fun i hi => by rw [Nat.zero_add]; exact (hcgB i (by omega)).trans (by rw [natF_take hi])⟩) ?_
         intro u8 c8 w8 hown8 hb8
         have hw8 : w1.heap.size ≤ w8.heap.size := Nat.le_trans hwB hb8.size
         have HO8 := hid (own_lower hown8 hwB)
         have HF8 : Hid (∀ b, (Value.slice u8 k c8).ownBlock = some b → g < b) := hid (fun b hb => Nat.lt_of_lt_of_le hgdB (hown8.lt b hb).1)
         have HB8 := hid (HBB.out.trans (hb8.mono hwB))
         refine hK.out _ _ (fun _ => trivial) trivial ?_
         try simp only [Act.put, List.setIfInBounds_toArray, List.set]
         have HOF := HO8
         have HNF := hid (HNB.out.below hb8 HNB.out.lt)
         have HBF := HB8
         have hwF := hw8
         have hcF : ∀ i, i < q → w8.cell? ⟨g, i, none⟩ = some (natF out i) := fun i hi => (hb8.cell (p := ⟨g, i, none⟩) hgdB).trans (hcgB i hi)
         have hgF : g < w8.heap.size := Nat.lt_of_lt_of_le hgdB hb8.size
         clear hK K hown8 hb8
         refine wpAnyB_ready (rs := [6]) (by kernel_rfl) (by simp) ?_
         refine AllReadyB.cons rfl (fun K hK => ?_) AllReadyB.nil
         refine step_append_form _ rfl (.tmp 108) (.tmp 110) 25 25 rfl w1.heap.size 3 3 i0 (.int .i64 0) 1 8 Tryz.underlying25 Tryz.underlying25 hi hz0 hz1 hz2 rfl (by decide) (.slice u8 k c8) k (iv (out.take k)) rfl HOF.out (some ⟨_, 0, none⟩) 1 1 [.int .i64 (r : Int)] rfl rfl (fun _ => ⟨_, rfl, World.news_of_block HNF.out⟩) (by intro u hu; simp at hu; subst hu; rfl) (by omega) (by unfold maxLen; omega) (by omega) hwF ?_
         intro p9 cap9 w9 hown9 hg9 hat9 hlt9
         have HB9 := hid (HBF.out.grown hg9 hwF (fun b hb => (HOF.out.lt b hb).1))
         have hw9 := HB9.out.size
         have hc9 : ∀ i, i < q → w9.cell? ⟨g, i, none⟩ = some (natF out i) := fun i hi => (hg9.cell_far ⟨g, i, none⟩ hgF (fun e => by have := HF8.out g e.symm; omega)).trans (hcF i hi)
         refine hK.out _ _ (fun _ => trivial) trivial ?_
         try simp only [Act.put, List.setIfInBounds_toArray, List.set]
         clear hK K
         refine wpAnyB_ready (rs := [10]) (by kernel_rfl) (by simp) ?_
         refine AllReadyB.cons rfl (fun K hK => ?_) AllReadyB.nil
         refine step_append_form _ rfl (.tmp 111) (.tmp 114) 25 25 rfl w1.heap.size 3 3 i0 (.int .i64 0) 1 8 Tryz.underlying25 Tryz.underlying25 hi hz0 hz1 hz2 rfl (by decide) (.slice (some ⟨p9, 0, none⟩) (k + 1) cap9) (k + 1) (iv (out.take k) ++ [.int .i64 (r : Int)]) rfl hown9 (some ⟨g, k, none⟩) (q - k) _ (iv (out.drop k)) rfl (by have h1 := HDL.out; rw [iv_len]; omega) (fun _ => ⟨_, rfl, fun j u hu => by rw [Addr.add_lit]; exact drop_at hc9 HOL.out hu⟩) (iv_one _) (by omega) (by unfold maxLen; omega) (by omega) hw9 ?_
         intro p10 cap10 w10 hown10 hg10 hat10 hlt10
         have HB10 := hid (HB9.out.grown hg10 hw9 (fun b hb => (hown9.lt b hb).1))
         have HO10 := hid hown10
         refine hK.out _ _ (fun _ => trivial) trivial ?_
         try simp only [Act.put, List.setIfInBounds_toArray, List.set]
         clear hK K hown9 hg9 hat9 hlt9 hown10 hg10 hat10 hlt10
         refine wpAnyB_ready (rs := [11]) (by kernel_rfl) (by simp) ?_
         refine AllReadyB.cons rfl (fun K hK => ?_) AllReadyB.nil
         go_simp
         refine hK.out _ _ (fun _ => trivial) trivial ?_
         try simp only [Act.put, List.setIfInBounds_toArray, List.set]
         clear hK K
         refine wpAnyB_done (by kernel_rfl) ?_ _
         go_wp2_with fail
         go_roundg (gk - 1)
         case rel => exact ⟨r + 1, by go_num, by omega, hid (by rw [HSN.out]; exact ⟨HB10.out, by rw [HLN.out, iv_split]; exact HO10.out, fun h => by rw [HLN.out] at h; omega⟩)⟩
         case measure => omega
       exact AllReadyB.nil
  ·obtain rfl : gk = 0 := by omega
   obtain rfl : r = n := by omega
   have hrd := rd_of_owns HST.out.own (natF out) (fun i hi => iv_at hi)
   rw [HOL.out] at hrd
   have HRD := hid hrd
   have HBE := hid (HB1.out.trans (HST.out.bel.mono (by omega)))
   clear hrd
   go_wp2
   go_ret
   exact ⟨_, rfl, by rw [HRL.out, HOL.out]; exact HRD.out, HBE.out⟩
end Go.Proofs.YthblaeleogdfpaaGreatDoor
