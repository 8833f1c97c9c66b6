/- Contract of the reference's Project. Contract of the reference's Copy. -/
import Derived.Deep.RegionLawGrows
import Derived.Test.YthblaeleogdfpaaGreatDoorCToau
set_option linter.unusedVariables false
set_option linter.unusedSimpArgs false
namespace Go.Proofs.YthblaeleogdfpaaGreatDoor
open Go.RowKit
structure GrowSt (w0 ws W : World) (cb base : Nat) (t : TypeId) (vs : Value → Array Value) (e : TypeId) (k : Nat) (v : Value) (n : Nat) (L : List Value) : Prop where
  bel : Below w0.heap.size w0 W
  box : BoxN W cb t (vs v)
  own : W.ownsRow base e k v n L
  low : base ≤ W.heap.size
  keep : ∀ i, i < base → i ≠ cb → W.heap[i]? = ws.heap[i]?
section
variable {w0 ws W W' : World} {cb base : Nat} {t : TypeId} {vs : Value → Array Value} {e : TypeId} {k : Nat} {v : Value} {n : Nat} {L : List Value}
theorem GrowSt.later (h : GrowSt w0 ws W cb base t vs e k v n L) (hb : Below W.heap.size W W') (hw : w0.heap.size ≤ W.heap.size) : GrowSt w0 ws W' cb base t vs e k v n L :=
 have hlo := h.low
 ⟨h.bel.trans (hb.mono hw), h.box.below hb h.box.lt, own_later h.own hb, Nat.le_trans h.low hb.size, fun i h1 h2 => (hb.block i (by omega)).trans (h.keep i h1 h2)⟩
theorem GrowSt.push (h : GrowSt w0 ws W cb base t vs e k v n L) {v' : Value} {m : Nat} {L' : List Value} (hown : W'.ownsRow base e k v' m L') (hgr : W.grownBy W' v.ownBlock) (i : Nat) (hi : (vs v).setIfInBounds i v' = vs v') (hcb : cb < base) (hc0 : w0.heap.size ≤ cb) :
  GrowSt w0 ws (W'.setCell ⟨cb, i, none⟩ v') cb base t vs e k v' m L' := by
 have hv : ∀ k, v.ownBlock = some k → base ≤ k := fun k hk => (h.own.lt k hk).1
 have hlo := h.low
 have hx : ∀ k, k < base → W'.heap[k]? = W.heap[k]? := fun k hk => hgr.block k (by omega) (fun e => by have := hv k e.symm; omega)
 have hb : Below w0.heap.size w0 W' := h.bel.trans ⟨hgr.os, hgr.tape, hgr.output, hgr.size, fun k hk => hx k (by omega)⟩
 have hbx := (show BoxN W' cb t (vs v) from (hx cb hcb).trans h.box).set i v'
 rw [hi] at hbx
 exact ⟨hb.setCell (p := ⟨cb, i, none⟩) hc0 _, hbx, ownsRow_setCell_below hown hcb _, by have := hgr.size; simp; omega, fun k h1 h2 => (Below.heap_setCell _ _ _ _ h2).trans ((hx k h1).trans (h.keep k h1 h2))⟩
end
theorem co_push {ys : List Co} {cw : Nat → Value} {x : Co} {u : Value} {q : Nat} (hq : ys.length = q) (hu : cw q = u) : flatK 2 q (coF ys cw) ++ [.string x.name, u] = flatK 2 (q + 1) (coF (ys ++ [x]) cw) := by
 subst hq
 refine flat_push (fun i hi j hj => ?_) ?_
 ·simp [coF, List.getD, List.getElem?_append_left hi]
 ·simp [coF, List.getD, List.range_succ, two, hu]
theorem rdco_shared {w0 W W' : World} {base B : Nat} {v : Value} {ys : List Co} {cw : Nat → Value} {n : Nat} (hn : ys.length = n) (hown : W.ownsRow base 30 2 v n (flatK 2 n (coF ys cw))) (hk : ∀ i, i < ys.length → RdCl w0 (· < B) (cw i) (ys.getD i Co.z).cells)
  (h1 : ∀ p : Addr, p.block < B → W'.cell? p = w0.cell? p) (h2 : ∀ p : Addr, base ≤ p.block → p.block < W.heap.size → W'.cell? p = W.cell? p) {w : World} (hwb : w.heap.size ≤ base) (hs : W.heap.size ≤ W'.heap.size) : RdCo W' (fun b => b < B ∨ News w W' b) v ys := by
 subst hn
 exact ⟨cw, (((inK_of_owns hown).more fun b hb => hown.lt b hb).keep (fun p hp => h2 p hp.1 hp.2)).more fun b hb => .inr ⟨Nat.le_trans hwb hb.1, Nat.lt_of_lt_of_le hb.2 hs⟩, fun i hi => ((hk i hi).keep h1).more fun b hb => .inl hb⟩
theorem projL_len (xs : List Co) (ks : List Int) : (projL xs ks).length = ks.length := by simp [projL]
theorem projL_at {xs : List Co} {ks : List Int} {i : Nat} (h : i < ks.length) : (projL xs ks).getD i Co.z = xs.getD (ks.getD i 0).toNat Co.z := by simp [projL, List.getD, h]
def PickedT (w : World) (B : Nat) (id : Int) (nm : ByteArray) (ys : List Co) (e : Ending) (w' : World) : Prop :=
  ∃ v, e = .returned (.tuple #[.agg #[.int .i64 id, .string nm, v], .int .i64 0]) ∧ RdCo w' (fun b => b < B ∨ News w w' b) v ys ∧ Below w.heap.size w w'
theorem projL_snoc {xs : List Co} {ks : List Int} {q : Nat} (h : q < ks.length) : projL xs (ks.take (q + 1)) = projL xs (ks.take q) ++ [xs.getD (ks.getD q 0).toNat Co.z] := by
 unfold projL
 rw [List.take_succ_eq_append_getElem h, List.map_append, List.map_singleton]
 simp [List.getD, h]
set_option maxRecDepth 100000 in
set_option maxHeartbeats 4000000 in
theorem ref03_Project (t : Ta) (v u : Value) (ks : List Int) (B : Nat) (w : World) (ht : TabV t) (hv : RdCo w (· < B) v t.cols) (hu : Rd w B u ks.length (intF ks)) (hB : B ≤ w.heap.size) (hT : Tabs w) (hk : ks.all (thereL t.cols.length) = true) (hk2 : ks.length ≤ 64) :
  Calls Tryz.prog 116 #[.agg #[.int .i64 t.id, .string t.name, v], u] w (PickedT w B t.id t.name (projL t.cols ks)) := by
 have HVL := hid (fun W (hW : Below w.heap.size w W) => ref_ValidTab t v B W ht (hv.keep fun p (hp : p.block < B) => hW.cell (p := p) (by omega)) (Nat.le_trans hB hW.size) (hT.below hW))
 obtain ⟨i0, hi, hz0, hz1, hz2⟩ := info_parts info_col
 obtain ⟨cv, hcv, hcl⟩ := hv
 obtain ⟨a, c, rfl, hcc, hm, hr⟩ := hcv
 obtain ⟨ua, uc, rfl, huc, hum, hur⟩ := hu
 have hxl64 : t.cols.length ≤ 64 := ht.2.2.2.1
 have HR := hid hr
 have HCL := hid hcl
 have HUR := hid hur
 have HKS : Hid (∀ q, q < ks.length → 0 ≤ ks.getD q 0 ∧ ks.getD q 0 < (t.cols.length : Int)) := hid (fun q hq => by
  have h1 := List.all_eq_true.1 hk _ (getD_mem hq 0)
  unfold thereL at h1
  simpa using h1)
 have HSN := hid (fun q (h : q < ks.length) => @projL_snoc t.cols ks q h)
 have HTK : Hid (ks.take ks.length = ks) := hid List.take_length
 clear hr hcl hur hk ht hT
 obtain ⟨id, nm, xs⟩ := t
 simp only at *
 generalize hxl : xs.length = L at *
 clear hxl
 generalize hkl : ks.length = m at *
 have HKL := hid hkl
 clear hkl
 unfold maxLen at hm hum
 have HX0 := hid ((BoxN.new w #[.int .i64 id, .string nm, .slice a L c] 24).alloc (.cells #[.int .i64 0, .string ⟨#[]⟩, .slice none 0 0] 24))
 have hy0 := BoxN.new (w.alloc (.cells #[.int .i64 id, .string nm, .slice a L c] 24)) #[.int .i64 0, .string ⟨#[]⟩, .slice none 0 0] 24
 rw [World.size_alloc] at hy0
 have HY0 := hid hy0
 have HB0 := hid (((Below.refl w.heap.size w).alloc (Nat.le_refl _) (.cells #[.int .i64 id, .string nm, .slice a L c] 24)).alloc (by simp) (.cells #[.int .i64 0, .string ⟨#[]⟩, .slice none 0 0] 24))
 have hz0' : ((w.alloc (.cells #[.int .i64 id, .string nm, .slice a L c] 24)).alloc (.cells #[.int .i64 0, .string ⟨#[]⟩, .slice none 0 0] 24)).heap.size = w.heap.size + 2 := by simp
 have c0 := HX0.out.cell 0 rfl
 have c1 := HX0.out.cell 1 rfl
 have c2 := HX0.out.cell 2 rfl
 clear hy0
 go_enter Tryz.func116, Tryz.ntmps116
 generalize hLA : Code.loop _ = LA
 go_wp2_with fail
 generalize (w.alloc (.cells #[.int .i64 id, .string nm, .slice a L c] 24)).alloc (.cells #[.int .i64 0, .string ⟨#[]⟩, .slice none 0 0] 24) = W0 at *
 with_reducible refine (HVL.out W0 HB0.out).mono ?_
 rintro e w1 ⟨rfl, hb1⟩
 have HB1 := hid (HB0.out.trans (hb1.mono (by omega)))
 have HX1 := hid (HX0.out.below hb1 HX0.out.lt)
 have HY1 := hid (HY0.out.below hb1 HY0.out.lt)
 have hz1' := hb1.size
 clear c0 c1 c2 hb1 HVL
 have c0 := HX1.out.cell 0 rfl
 have c1 := HX1.out.cell 1 rfl
 have c2 := HX1.out.cell 2 rfl
 go_wp2_with fail
 have HO1 := hid (BoxN.new w1 #[.int .i64 id, .string nm, .slice none 0 0] 24)
 have HX2 := hid (HX1.out.alloc (.cells #[.int .i64 id, .string nm, .slice none 0 0] 24))
 have HY2 := hid (HY1.out.alloc (.cells #[.int .i64 id, .string nm, .slice none 0 0] 24))
 have HB2 := hid (HB1.out.alloc (by omega) (.cells #[.int .i64 id, .string nm, .slice none 0 0] 24))
 have hz2' : (w1.alloc (.cells #[.int .i64 id, .string nm, .slice none 0 0] 24)).heap.size = w1.heap.size + 1 := by simp
 generalize w1.alloc (.cells #[.int .i64 id, .string nm, .slice none 0 0] 24) = W2 at *
 clear c0 c1 c2
 subst hLA
 go_loopg [20] m (fun N i wr => ∃ (q : Nat) (y : Value), i = .int .i64 (q : Int) ∧ q + N = m ∧ Hid (GrowSt w W2 wr w1.heap.size W2.heap.size 24 (fun z => #[.int .i64 id, .string nm, z]) 30 2 y q (flatK 2 q (coF (projL xs (ks.take q)) (fun i => cv (ks.getD i 0).toNat)))))
 case atStart => exact ⟨0, .slice none 0 0, rfl, by omega, hid ⟨HB2.out, HO1.out, World.ownsRow_nil _ _ _ _, Nat.le_refl _, fun _ _ _ => rfl⟩⟩
 case round =>
  obtain ⟨q, y, rfl, hq, HST⟩ := hrel
  have hlo := HST.out.low
  by_cases hp : 0 < gk
  ·obtain ⟨b, o, rfl, hb, hcell⟩ := HUR.out (by omega)
   have hb' : b < B := hb
   obtain ⟨hk0, hk1⟩ := HKS.out q (by omega)
   obtain ⟨ba, oa, rfl, hba, hcella⟩ := HR.out (by omega)
   have hba' : ba < B := hba
   have k0 : wr.cell? ⟨b, o + q, none⟩ = some (.int .i64 (ks.getD q 0)) := (HST.out.bel.cell (p := ⟨b, o + q, none⟩) (by show b < w.heap.size; omega)).trans (hcell q (by omega))
   have HSNq := hid (HSN.out q (by omega))
   obtain ⟨kq, hkq⟩ : ∃ kq : Nat, ks.getD q 0 = (kq : Int) := ⟨(ks.getD q 0).toNat, by omega⟩
   have hkL : kq < L := by omega
   have k1 : wr.cell? ⟨ba, oa + kq * 2, none⟩ = some (.string (xs.getD kq Co.z).name) := (HST.out.bel.cell (p := ⟨ba, oa + kq * 2, none⟩) (by show ba < w.heap.size; omega)).trans (hcella kq hkL 0 (by omega))
   have k2 : wr.cell? ⟨ba, oa + kq * 2 + 1, none⟩ = some (cv kq) := (HST.out.bel.cell (p := ⟨ba, oa + kq * 2 + 1, none⟩) (by show ba < w.heap.size; omega)).trans (hcella kq hkL 1 (by omega))
   obtain ⟨ca, ck, hcq, -, -, -⟩ := HCL.out kq hkL
   have HCQ := hid hcq
   rw [hkq] at k0 hk0 hk1
   rw [hcq] at k2
   have HKQ := hid hkq
   clear hcell hcella hkq hcq
   have hx2 := ((HST.out.keep w.heap.size (by omega) (by omega)).trans HX2.out)
   have t2 := (show BoxN wr w.heap.size _ _ from hx2).cell 2 rfl
   have s2 : wr.cell? ⟨w1.heap.size, 2, none⟩ = some y := HST.out.box.cell 2 rfl
   have sf2 := HST.out.box.frozen 2
   have HOWN := hid HST.out.own
   have HOB := hid HST.out.own.lt
   obtain ⟨ya, yc, rfl⟩ := own_slice HST.out.own
   have HPL : Hid ((projL xs (ks.take q)).length = q) := hid (by rw [projL_len, List.length_take]; have := HKL.out; omega)
   have HCW : Hid ((fun i => cv (ks.getD i 0).toNat) q = cv kq) := hid (by show cv (ks.getD q 0).toNat = _; rw [HKQ.out]; rfl)
   have HXN : Hid ((xs.getD (ks.getD q 0).toNat Co.z).name = (xs.getD kq Co.z).name) := hid (by rw [HKQ.out]; rfl)
   rw [HCQ.out] at HCW
   generalize (xs.getD kq Co.z).name = xn at *
   generalize (xs.getD kq Co.z).cells.length = cn at *
   clear hx2
   have HO1 := hid ((HOWN.out.alloc (.cells #[.string xn, .slice ca cn ck] 30)).drew)
   have HN1 := hid (show BoxN (wr.alloc (.cells #[.string xn, .slice ca cn ck] 30)).drew wr.heap.size 30 #[.string xn, .slice ca cn ck] from BoxN.new wr _ _)
   have HS1 := hid (HST.out.later (W' := (wr.alloc (.cells #[.string xn, .slice ca cn ck] 30)).drew) (by have h1 := Below.refl wr.heap.size wr; repeat' (first | (with_reducible exact Below.refl _ _) | (with_reducible assumption) | (with_reducible refine below_drewN ?_) | (with_reducible refine Below.alloc ?_ ?_ _) | (with_reducible refine Below.drew ?_) | (with_reducible refine Below.setCell ?_ ?_ _) | (with_reducible refine Below.trans ?_ (Below.mono (by with_reducible assumption) ?_)) | go_size)) HST.out.bel.size)
   have s3 : (wr.alloc (.cells #[.string xn, .slice ca cn ck] 30)).cell? ⟨w1.heap.size, 2, none⟩ = some (.slice ya q yc) := HS1.out.box.cell 2 rfl
   go_upto_region 9 with fail
   go_region_law ((refine step_append_form _ rfl (.tmp 35) (.tmp 41) 22 22 rfl W2.heap.size 30 30 i0 (.agg #[.string ⟨#[]⟩, .slice none 0 0]) 2 40 Tryz.underlying22 Tryz.underlying22 hi hz0 hz1 hz2 rfl (by decide) (.slice ya q yc) q _ rfl HO1.out (some ⟨wr.heap.size, 0, none⟩) 1 1 [.string xn, .slice ca cn ck] rfl rfl (fun _ => ⟨_, rfl, World.news_of_block HN1.out⟩) (by intro u hu; simp at hu; rcases hu with rfl | rfl <;> rfl) (by omega) (by unfold maxLen; omega) (by omega) (by simp; omega) ?_); intro p7 cap7 w7 hown7 hg7 hat7 hlt7; have hbx7 := HS1.out.box.grown hg7 (fun e => by have := HOB.out _ e.symm; omega); have q1 : w7.cell? ⟨w1.heap.size, 2, none⟩ = some (.slice ya q yc) := hbx7.cell 2 rfl; have fq1 := hbx7.frozen 2; have HG7 := hid hg7; have HOWN7 := hid hown7; clear hown7 hg7 hat7 hbx7)
   all_goals
    clear q1 fq1 s3 s2 sf2 t2 k0 k1 k2
    go_wp2
    go_roundg (gk - 1)
    case rel => exact ⟨q + 1, _, by go_num, by omega, hid (by rw [HSNq.out]; exact HS1.out.push (by rw [← co_push HPL.out HCW.out, HXN.out]; exact HOWN7.out) HG7.out 2 rfl (by omega) (by omega))⟩
    case measure => omega
  ·obtain rfl : gk = 0 := by omega
   obtain rfl : q = m := by omega
   have hx2 := (show BoxN wr w.heap.size _ _ from (HST.out.keep w.heap.size (by omega) (by omega)).trans HX2.out)
   have hy2 := (show BoxN wr (w.heap.size + 1) _ _ from (HST.out.keep (w.heap.size + 1) (by omega) (by omega)).trans HY2.out)
   obtain ⟨ya, yc, rfl⟩ := own_slice HST.out.own
   have c0 := hy2.cell 0 rfl
   have c1 := hy2.cell 1 rfl
   have c2 := hy2.cell 2 rfl
   have f0 := hy2.frozen 0
   have f1 := hy2.frozen 1
   have f2 := hy2.frozen 2
   have e0 : wr.cell? ⟨w1.heap.size, 0, none⟩ = some (.int .i64 id) := HST.out.box.cell 0 rfl
   have e1 : wr.cell? ⟨w1.heap.size, 1, none⟩ = some (.string nm) := HST.out.box.cell 1 rfl
   have e2 : wr.cell? ⟨w1.heap.size, 2, none⟩ = some (.slice ya q yc) := HST.out.box.cell 2 rfl
   have hd : decide ((64 : Int) < (q : Int)) = false := decide_eq_false (by omega)
   have hd2 : decide (64 < q) = false := decide_eq_false (by omega)
   clear hx2
   go_wp2
   have hwr := HST.out.bel.size
   refine bodyPost_ret (v := .tuple #[.agg #[.int .i64 id, .string nm, .slice ya q yc], .int .i64 0]) (by simp [results, Tryz.results116, go_sem, c0, c1, c2]) rfl ⟨_, rfl, ?_, by have := HST.out.bel; repeat' (first | (with_reducible exact Below.refl _ _) | (with_reducible assumption) | (with_reducible refine below_drewN ?_) | (with_reducible refine Below.alloc ?_ ?_ _) | (with_reducible refine Below.drew ?_) | (with_reducible refine Below.setCell ?_ ?_ _) | (with_reducible refine Below.trans ?_ (Below.mono (by with_reducible assumption) ?_)) | go_size)⟩
   have hown := HST.out.own
   rw [List.take_of_length_le (by have := HKL.out; omega)] at hown
   have hpl : (projL xs ks).length = q := by rw [projL_len]; exact HKL.out
   have hbe := HST.out.bel
   refine rdco_shared (w0 := w) (B := B) hpl hown (fun i hi => ?_) (fun p hp => ?_) (fun p hp1 hp2 => ?_) (by omega) (by simp)
   ·have hi' : i < q := by omega
    rw [projL_at (by rw [HKL.out]; exact hi')]
    obtain ⟨h0, h1⟩ := HKS.out i hi'
    exact HCL.out _ (by omega)
   ·rw [World.cell?_setCell_other _ _ _ _ (by intro e; subst e; simp at hp; omega), World.cell?_setCell_other _ _ _ _ (by intro e; subst e; simp at hp; omega), World.cell?_setCell_other _ _ _ _ (by intro e; subst e; simp at hp; omega)]
    exact hbe.cell (by omega)
   ·rw [World.cell?_setCell_other _ _ _ _ (by intro e; subst e; simp at hp1; omega), World.cell?_setCell_other _ _ _ _ (by intro e; subst e; simp at hp1; omega), World.cell?_setCell_other _ _ _ _ (by intro e; subst e; simp at hp1; omega)]
end Go.Proofs.YthblaeleogdfpaaGreatDoor

namespace Go.Proofs.YthblaeleogdfpaaGreatDoor
open Go.RowKit
theorem step_append_zero0 {P : Program} {w : World} {ops : Array Oper} {o : Oper} {a : Act} {K : Act → World → Prop} {Q : Exit → Act → World → Prop} {E : Prop} (hgd : o.guard = none) (s x : Operand) (t tx : TypeId)
  (ho : o.op = .call { callee := .builtin .append, args := #[s, x], argTypes := #[t, tx] }) (e e' : TypeId) (i : TypeInfo) (ht : P.underlying t = some (.slice e)) (hk : P.underlying tx = some (.slice e')) (hi : P.info? e = some i)
  (base : Option Addr) (n cap : Nat) (hs : a.eval s = .slice base n cap) (hn : n ≤ cap) (ao : Option Addr) (m c : Nat) (hm : m = 0) (hx : a.eval x = .slice ao m c)
  (h : K (a.put o.dst (.slice base n cap)) w) : if Region.wanted o (yielded ops a.tmps) = true then Oper.wp P o a w K Q else E := by
 subst hm
 have hw : Region.wanted o (yielded ops a.tmps) = true := by simp [Region.wanted, hgd]
 rw [if_pos hw]
 have hr : (Builtin.append_ #[t, tx] o.type #[.slice base n cap, .slice ao 0 c]).run P w = .ok (.slice base n cap) w := by
  rw [append_types w ht hk]; exact run_append_empty w ht hi base n cap c hn ao
 unfold Oper.wp execOp
 simp only [ho, resolve, invoke, builtin, Sem.run_bind, Sem.run_pure, Result.andThen_ok, List.map_toArray, List.map_cons, List.map_nil, hs, hx, hr]
 exact h
theorem step_append_cells {w : World} {ops : Array Oper} {o : Oper} {a : Act} {K : Act → World → Prop} {Q : Exit → Act → World → Prop} {E : Prop} (hgd : o.guard = none) (s x : Operand)
  (ho : o.op = .call { callee := .builtin .append, args := #[s, x], argTypes := #[28, 28] }) (hs : a.eval s = .slice none 0 0) {S : Nat → Prop} {ao : Option Addr} {n c : Nat} (hx : a.eval x = .slice ao n c) {cs : List Cl} (hn : n = cs.length) (hl : n ≤ 1048576) (hrd : RdCl w S (.slice ao n c) cs)
  (h : ∀ ua uc w', RdCl w' (News w w') (.slice ua n uc) cs → Below w.heap.size w w' → K (a.put o.dst (.slice ua n uc)) w') : if Region.wanted o (yielded ops a.tmps) = true then Oper.wp Tryz.prog o a w K Q else E := by
 obtain ⟨i0, hi, hz0, hz1, hz2⟩ := info_parts info_cell
 obtain ⟨a', c', e, hc, hm, hr⟩ := hrd
 obtain ⟨rfl, _, rfl⟩ := Value.slice.inj e
 by_cases h0 : n = 0
 ·subst h0
  refine step_append_zero0 hgd s x 28 28 ho 104 104 i0 Tryz.underlying28 Tryz.underlying28 hi none 0 0 hs (Nat.le_refl _) ao 0 c rfl hx (h none 0 w ?_ (Below.refl _ _))
  rw [List.eq_nil_of_length_eq_zero hn.symm]
  exact RdCl.nil
 ·obtain ⟨b, o', rfl, hb, hcell⟩ := hr (by omega)
  subst hn
  refine step_append_form w hgd s x 28 28 ho w.heap.size 104 104 i0 (.agg #[.bool false, .string ⟨#[]⟩]) 2 24 Tryz.underlying28 Tryz.underlying28 hi hz0 hz1 hz2 rfl (by decide) (.slice none 0 0) 0 [] hs (World.ownsRow_nil _ _ _ _) (some ⟨b, o', none⟩) cs.length c (flatK 2 cs.length (clF cs)) hx (flatK_len _ _ _) (fun _ => ⟨_, rfl, fun j u hu => ?_⟩) (fun u hu => ?_) (by omega) (by unfold maxLen; omega) (by omega) (Nat.le_refl _) ?_
  ·have hj : j < cs.length * 2 := by
    have := (List.getElem?_eq_some_iff.1 hu).1
    rw [flatK_len] at this
    exact this
   have h1 := flatK_at (k := 2) (n := cs.length) (f := clF cs) (i := j / 2) (j := j % 2) (by omega) (Nat.mod_lt _ (by omega))
   rw [show j / 2 * 2 + j % 2 = j by omega] at h1
   rw [h1] at hu
   obtain rfl := Option.some.inj hu
   have h2 := hcell (j / 2) (by omega) (j % 2) (Nat.mod_lt _ (by omega))
   rw [show o' + j / 2 * 2 + j % 2 = o' + j by omega] at h2
   rw [Addr.add_lit]
   exact h2
  ·obtain ⟨j, hj, rfl⟩ := List.getElem_of_mem hu
   have hj2 : j < cs.length * 2 := by rw [flatK_len] at hj; exact hj
   have h1 := flatK_at (k := 2) (n := cs.length) (f := clF cs) (i := j / 2) (j := j % 2) (by omega) (Nat.mod_lt _ (by omega))
   rw [show j / 2 * 2 + j % 2 = j by omega, List.getElem?_eq_getElem hj] at h1
   rw [Option.some.inj h1]
   rcases (show j % 2 = 0 ∨ j % 2 = 1 by omega) with e | e <;> rw [e] <;> rfl
  ·intro g cap w' hown hg hat hlt
   simp only [Nat.zero_add, List.nil_append] at hown ⊢
   refine h _ _ _ ((rdCl_of_own hown).more fun b hb => hb) ⟨hg.os, hg.tape, hg.output, hg.size, fun k hk => hg.block k hk (fun e => by cases e)⟩
structure ToSt (w0 ws W : World) (cb base : Nat) (id : Int) (nm : ByteArray) (v : Value) (ys : List Co) : Prop where
  bel : Below w0.heap.size w0 W
  box : BoxN W cb 24 #[.int .i64 id, .string nm, v]
  own : CoSt W base 30 v ys
  low : base ≤ W.heap.size
  keep : ∀ k, k < base → k ≠ cb → W.heap[k]? = ws.heap[k]?
section
variable {w0 ws W W' : World} {cb base : Nat} {id : Int} {nm : ByteArray} {v : Value} {ys : List Co}
theorem ToSt.later (h : ToSt w0 ws W cb base id nm v ys) (hb : Below W.heap.size W W') (hw : w0.heap.size ≤ W.heap.size) (h0 : 0 < base) : ToSt w0 ws W' cb base id nm v ys :=
 have hlo := h.low
 ⟨h.bel.trans (hb.mono hw), h.box.below hb h.box.lt, h.own.roll (Roll.of_below hb 0) (Nat.le_refl _) h0, Nat.le_trans h.low hb.size, fun i h1 h2 => (hb.block i (by omega)).trans (h.keep i h1 h2)⟩
theorem ToSt.push (h : ToSt w0 ws W cb base id nm v ys) {x : Co} {L : List Value} {u : Value} {p m cap : Nat} (hm : m = ys.length + 1) (hL : W.ownsRow base 30 2 v ys.length L)
  (hown : W'.ownsRow base 30 2 (.slice (some ⟨p, 0, none⟩) m cap) m (L ++ [.string x.name, u])) (hgr : W.grownBy W' v.ownBlock) (hat : v.ownBlock = some p ∨ p = W.heap.size)
  (hnew : RdCl W (Own W base v) u x.cells) (hcb : cb < base) (hc0 : w0.heap.size ≤ cb) :
  ToSt w0 ws (W'.setCell ⟨cb, 2, none⟩ (.slice (some ⟨p, 0, none⟩) m cap)) cb base id nm (.slice (some ⟨p, 0, none⟩) m cap) (ys ++ [x]) := by
 have hv : ∀ k, v.ownBlock = some k → base ≤ k := fun k hk => (hL.lt k hk).1
 have hlo := h.low
 have hx' : ∀ k, k < base → W'.heap[k]? = W.heap[k]? := fun k hk => hgr.block k (by omega) (fun e => by have := hv k e.symm; omega)
 have hb : Below w0.heap.size w0 W' := h.bel.trans ⟨hgr.os, hgr.tape, hgr.output, hgr.size, fun k hk => hx' k (by omega)⟩
 exact ⟨hb.setCell (p := ⟨cb, 2, none⟩) hc0 _, (show BoxN W' cb _ _ from (hx' cb hcb).trans h.box).set 2 _, (h.own.push hL hm hown hgr hat hnew).setCell hcb _, by have := hgr.size; simp; omega, fun k h1 h2 => (Below.heap_setCell _ _ _ _ h2).trans ((hx' k h1).trans (h.keep k h1 h2))⟩
end
theorem own_lower {w : World} {base b0 : Nat} {e : TypeId} {k n : Nat} {v : Value} {xs : List Value} (h : w.ownsRow base e k v n xs) (hb : b0 ≤ base) : w.ownsRow b0 e k v n xs := by
 refine ⟨h.1, ?_⟩
 rcases h.2 with h1 | ⟨g, cap, cur, rfl, h2, rest⟩
 ·exact .inl h1
 ·exact .inr ⟨g, cap, cur, rfl, Nat.le_trans hb h2, rest⟩
theorem CoSt.lower {w : World} {base b0 : Nat} {e : TypeId} {v : Value} {xs : List Co} (h : CoSt w base e v xs) (hb : b0 ≤ base) : CoSt w b0 e v xs := by
 obtain ⟨cv, h⟩ := h
 exact ⟨cv, own_lower h.row hb, Nat.le_trans hb h.low, fun i hi => (h.kids i hi).more fun b hb' => ⟨Nat.le_trans hb hb'.1, hb'.2⟩⟩
def NewT (w : World) (id : Int) (nm : ByteArray) (ys : List Co) (e : Ending) (w' : World) : Prop :=
  ∃ v, e = .returned (.agg #[.int .i64 id, .string nm, v]) ∧ CoSt w' w.heap.size 30 v ys ∧ Below w.heap.size w w'
theorem take_snocC {xs : List Co} {q : Nat} (h : q < xs.length) : xs.take (q + 1) = xs.take q ++ [xs.getD q Co.z] := by
 rw [List.take_succ_eq_append_getElem h]
 simp [List.getD, h]
set_option maxRecDepth 100000 in
set_option maxHeartbeats 4000000 in
theorem ref38_Copy (t : Ta) (v : Value) (B : Nat) (w : World) (hv : RdCo w (· < B) v t.cols) (hB : B ≤ w.heap.size) (hl : t.cols.length ≤ 1048576) (hc : ∀ x ∈ t.cols, x.cells.length ≤ 1048576) :
  Calls Tryz.prog 46 #[.agg #[.int .i64 t.id, .string t.name, v]] w (NewT w t.id t.name t.cols) := by
 obtain ⟨i0, hi, hz0, hz1, hz2⟩ := info_parts info_col
 obtain ⟨cv, hcv, hcl⟩ := hv
 obtain ⟨a, c, rfl, hcc, hm, hr⟩ := hcv
 have HR := hid hr
 have HCL := hid hcl
 have HC := hid (fun q (hq : q < t.cols.length) => hc _ (getD_mem hq Co.z))
 have HSN := hid (fun q (h : q < t.cols.length) => @take_snocC t.cols q h)
 clear hr hcl hc
 obtain ⟨id, nm, xs⟩ := t
 simp only at *
 generalize hxl : xs.length = L at *
 have HXL := hid hxl
 clear hxl
 unfold maxLen at hm
 go_enter Tryz.func46, Tryz.ntmps46
 generalize hLA : Code.loop _ = LA
 go_wp2_with fail
 have HX0 := hid (((BoxN.new w #[.int .i64 id, .string nm, .slice a L c] 24).alloc (.cells #[.int .i64 0, .string ⟨#[]⟩, .slice none 0 0] 24)).alloc (.cells #[.int .i64 id, .string nm, .slice none 0 0] 24))
 have hy0 := (BoxN.new (w.alloc (.cells #[.int .i64 id, .string nm, .slice a L c] 24)) #[.int .i64 0, .string ⟨#[]⟩, .slice none 0 0] 24).alloc (.cells #[.int .i64 id, .string nm, .slice none 0 0] 24)
 have ho0 := BoxN.new ((w.alloc (.cells #[.int .i64 id, .string nm, .slice a L c] 24)).alloc (.cells #[.int .i64 0, .string ⟨#[]⟩, .slice none 0 0] 24)) #[.int .i64 id, .string nm, .slice none 0 0] 24
 rw [World.size_alloc] at hy0
 rw [World.size_alloc, World.size_alloc] at ho0
 have HY0 := hid hy0
 have HO0 := hid ho0
 have HB0 := hid ((((Below.refl w.heap.size w).alloc (Nat.le_refl _) (.cells #[.int .i64 id, .string nm, .slice a L c] 24)).alloc (by simp) (.cells #[.int .i64 0, .string ⟨#[]⟩, .slice none 0 0] 24)).alloc (by simp; omega) (.cells #[.int .i64 id, .string nm, .slice none 0 0] 24))
 have hz0' : (((w.alloc (.cells #[.int .i64 id, .string nm, .slice a L c] 24)).alloc (.cells #[.int .i64 0, .string ⟨#[]⟩, .slice none 0 0] 24)).alloc (.cells #[.int .i64 id, .string nm, .slice none 0 0] 24)).heap.size = w.heap.size + 3 := by simp
 clear hy0 ho0
 generalize ((w.alloc (.cells #[.int .i64 id, .string nm, .slice a L c] 24)).alloc (.cells #[.int .i64 0, .string ⟨#[]⟩, .slice none 0 0] 24)).alloc (.cells #[.int .i64 id, .string nm, .slice none 0 0] 24) = W0 at *
 subst hLA
 go_loopg [14] L (fun N i wr => ∃ (q : Nat) (y : Value), i = .int .i64 (q : Int) ∧ q + N = L ∧ Hid (ToSt w W0 wr (w.heap.size + 2) W0.heap.size id nm y (xs.take q)))
 case atStart => exact ⟨0, .slice none 0 0, rfl, by omega, hid ⟨HB0.out, HO0.out, CoSt.start (Nat.le_refl _), Nat.le_refl _, fun _ _ _ => rfl⟩⟩
 case round =>
  obtain ⟨q, y, rfl, hq, HST⟩ := hrel
  have hlo := HST.out.low
  have HQL : Hid ((xs.take q).length = q) := hid (by rw [List.length_take]; have := HXL.out; omega)
  by_cases hp : 0 < gk
  ·obtain ⟨ba, oa, rfl, hba, hcella⟩ := HR.out (by omega)
   have hba' : ba < B := hba
   have hqL : q < L := by omega
   have k1 : wr.cell? ⟨ba, oa + q * 2, none⟩ = some (.string (xs.getD q Co.z).name) := (HST.out.bel.cell (p := ⟨ba, oa + q * 2, none⟩) (by show ba < w.heap.size; omega)).trans (hcella q hqL 0 (by omega))
   have k2 : wr.cell? ⟨ba, oa + q * 2 + 1, none⟩ = some (cv q) := (HST.out.bel.cell (p := ⟨ba, oa + q * 2 + 1, none⟩) (by show ba < w.heap.size; omega)).trans (hcella q hqL 1 (by omega))
   obtain ⟨ca, ck, hcq, -, -, -⟩ := HCL.out q hqL
   have HRQ := hid (HCL.out q hqL)
   have hcn := HC.out q hqL
   rw [hcq] at k2 HRQ
   have HSNq := hid (HSN.out q hqL)
   clear hcella hcq
   obtain ⟨L0, hL0⟩ := HST.out.own.owns
   rw [HQL.out] at hL0
   obtain ⟨ya, yc, rfl⟩ := own_slice hL0
   have HL0 := hid hL0
   clear hL0
   generalize xs.getD q Co.z = x at *
   obtain ⟨xn, xc⟩ := x
   simp only at k1 k2 HRQ hcn
   have hst1 := HST.out.later (W' := wr.alloc (.cells #[.string xn, .slice ca xc.length ck] 30)) ((Below.refl _ _).alloc (Nat.le_refl _) _) HST.out.bel.size (by omega)
   have HBX := hid (BoxN.new wr #[.string xn, .slice ca xc.length ck] 30)
   have HL1 := hid (HL0.out.alloc (.cells #[.string xn, .slice ca xc.length ck] 30))
   have hzw : (wr.alloc (.cells #[.string xn, .slice ca xc.length ck] 30)).heap.size = wr.heap.size + 1 := by simp
   have hwr := HST.out.bel.size
   go_upto_region 5 with fail
   generalize wr.alloc (.cells #[.string xn, .slice ca xc.length ck] 30) = W1 at *
   have HST1 := hid hst1
   have s0 : W1.cell? ⟨w.heap.size + 2, 2, none⟩ = some (.slice ya q yc) := hst1.box.cell 2 rfl
   have sf : W1.frozen? ⟨w.heap.size + 2, 2, none⟩ = false := hst1.box.frozen 2
   have x0 := HBX.out.cell 0 rfl
   have x1 := HBX.out.cell 1 rfl
   clear k1 k2 hst1
   have HST2 := hid (HST1.out.later (W' := W1.drew) (by have h1 := Below.refl W1.heap.size W1; repeat' (first | (with_reducible exact Below.refl _ _) | (with_reducible assumption) | (with_reducible refine below_drewN ?_) | (with_reducible refine Below.alloc ?_ ?_ _) | (with_reducible refine Below.drew ?_) | (with_reducible refine Below.setCell ?_ ?_ _) | (with_reducible refine Below.trans ?_ (Below.mono (by with_reducible assumption) ?_)) | go_size)) HST1.out.bel.size (by omega))
   have HRW := hid (HRQ.out.keep fun p (hp : p.block < B) => HST2.out.bel.cell (p := p) (by omega))
   have HLW := hid (HL1.out.drew)
   have HBW := hid (show BoxN W1.drew wr.heap.size _ _ from HBX.out)
   have HZW : Hid (W1.drew.heap.size = wr.heap.size + 1) := hid hzw
   go_region_law (first
    | ((refine step_append_cells rfl (.const (.slice none 0 0)) (.tmp 23) rfl rfl (S := (· < B)) rfl rfl hcn HRW.out ?_); intro ua uc w6 hrd6 hb6; have HB6 := hid hb6; have HRD6 := hid hrd6; have hz6 : wr.heap.size + 1 ≤ w6.heap.size := Nat.le_trans (Nat.le_of_eq HZW.out.symm) hb6.size; have HST6 := hid (HST2.out.later hb6 HST2.out.bel.size (by omega)); have HL6 := hid (own_later HLW.out hb6); have HX6 := hid (HBW.out.below hb6 HBW.out.lt); have s6 : w6.cell? ⟨w.heap.size + 2, 2, none⟩ = some (.slice ya q yc) := HST6.out.box.cell 2 rfl; have x6 := HX6.out.cell 0 rfl; have HST7 := hid (HST6.out.later (W' := w6.alloc (.cells #[.string xn, .slice ua xc.length uc] 30)) ((Below.refl _ _).alloc (Nat.le_refl _) _) HST6.out.bel.size (by omega)); have s7 : (w6.alloc (.cells #[.string xn, .slice ua xc.length uc] 30)).cell? ⟨w.heap.size + 2, 2, none⟩ = some (.slice ya q yc) := HST7.out.box.cell 2 rfl; have HL7 := hid (HL6.out.alloc (.cells #[.string xn, .slice ua xc.length uc] 30)); have HN7 := hid (BoxN.new w6 #[.string xn, .slice ua xc.length uc] 30); clear hrd6 hb6)
    | ((refine step_append_form _ rfl (.tmp 19) (.tmp 26) 22 22 rfl W0.heap.size 30 30 i0 (.agg #[.string ⟨#[]⟩, .slice none 0 0]) 2 40 Tryz.underlying22 Tryz.underlying22 hi hz0 hz1 hz2 rfl (by decide) (.slice ya q yc) q _ rfl HL7.out (some ⟨w6.heap.size, 0, none⟩) 1 1 [.string xn, .slice ua xc.length uc] rfl rfl (fun _ => ⟨_, rfl, World.news_of_block HN7.out⟩) (by intro u hu; simp at hu; rcases hu with rfl | rfl <;> rfl) (by omega) (by unfold maxLen; omega) (by omega) (by simp; omega) ?_); intro p8 cap8 w8 hown8 hg8 hat8 hlt8; have hbx8 := HST7.out.box.grown hg8 (fun e => by have := HL7.out.lt _ e.symm; omega); have q1 : w8.cell? ⟨w.heap.size + 2, 2, none⟩ = some (.slice ya q yc) := hbx8.cell 2 rfl; have fq1 := hbx8.frozen 2; have HG8 := hid hg8; have HOWN8 := hid hown8; have HAT8 := hid hat8; clear hown8 hg8 hat8 hbx8))
   all_goals
    have HNEW : Hid (RdCl (w6.alloc (.cells #[.string xn, .slice ua xc.length uc] 30)) (Own (w6.alloc (.cells #[.string xn, .slice ua xc.length uc] 30)) W0.heap.size (.slice ya q yc)) (.slice ua xc.length uc) xc) := hid ((HRD6.out.keep (fun p hp => World.cell?_alloc_lt _ _ _ hp.2)).more (fun b hb => ⟨by have h1 := hb.1; rw [HZW.out] at h1; omega, by have h1 := hb.2; simp; omega, fun e => by have h1 := (HL1.out.lt _ e).2; have h2 := hb.1; rw [HZW.out] at h2; omega⟩))
    clear q1 fq1 s0 sf s6 s7 x0 x1 x6
    go_wp2
    go_roundg (gk - 1)
    case rel => exact ⟨q + 1, _, by go_num, by omega, hid (by rw [HSNq.out]; exact HST7.out.push (x := ⟨xn, xc⟩) (by rw [HQL.out]) (by rw [HQL.out]; exact HL7.out) HOWN8.out HG8.out HAT8.out HNEW.out (by omega) (by omega))⟩
    case measure => omega
  ·obtain rfl : gk = 0 := by omega
   obtain rfl : q = L := by omega
   have hy2 := (show BoxN wr (w.heap.size + 1) _ _ from (HST.out.keep (w.heap.size + 1) (by omega) (by omega)).trans HY0.out)
   obtain ⟨L0, hL0⟩ := HST.out.own.owns
   rw [HQL.out] at hL0
   obtain ⟨ya, yc, rfl⟩ := own_slice hL0
   have c0 := hy2.cell 0 rfl
   have c1 := hy2.cell 1 rfl
   have c2 := hy2.cell 2 rfl
   have f0 := hy2.frozen 0
   have f1 := hy2.frozen 1
   have f2 := hy2.frozen 2
   have e0 : wr.cell? ⟨w.heap.size + 2, 0, none⟩ = some (.int .i64 id) := HST.out.box.cell 0 rfl
   have e1 : wr.cell? ⟨w.heap.size + 2, 1, none⟩ = some (.string nm) := HST.out.box.cell 1 rfl
   have e2 : wr.cell? ⟨w.heap.size + 2, 2, none⟩ = some (.slice ya q yc) := HST.out.box.cell 2 rfl
   have HTX : Hid (xs.take q = xs) := hid (List.take_of_length_le (by have := HXL.out; omega))
   clear hy2 hL0
   go_wp2
   have hwr := HST.out.bel.size
   refine bodyPost_ret (v := .agg #[.int .i64 id, .string nm, .slice ya q yc]) (by simp [results, Tryz.results46, go_sem, c0, c1, c2]) rfl ⟨_, rfl, ?_, by have := HST.out.bel; repeat' (first | (with_reducible exact Below.refl _ _) | (with_reducible assumption) | (with_reducible refine below_drewN ?_) | (with_reducible refine Below.alloc ?_ ?_ _) | (with_reducible refine Below.drew ?_) | (with_reducible refine Below.setCell ?_ ?_ _) | (with_reducible refine Below.trans ?_ (Below.mono (by with_reducible assumption) ?_)) | go_size)⟩
   have hown := HST.out.own
   rw [HTX.out] at hown
   exact (((hown.setCell (p := ⟨w.heap.size + 1, 0, none⟩) (by show w.heap.size + 1 < W0.heap.size; omega) _).setCell (p := ⟨w.heap.size + 1, 1, none⟩) (by show w.heap.size + 1 < W0.heap.size; omega) _).setCell (p := ⟨w.heap.size + 1, 2, none⟩) (by show w.heap.size + 1 < W0.heap.size; omega) _).lower (by omega)
end Go.Proofs.YthblaeleogdfpaaGreatDoor
