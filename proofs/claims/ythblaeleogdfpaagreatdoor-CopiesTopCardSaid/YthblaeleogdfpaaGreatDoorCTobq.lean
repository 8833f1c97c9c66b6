/- Contract of the kit's Tables. -/
import Derived.Test.YthblaeleogdfpaaGreatDoorCTobc
set_option linter.unusedVariables false
set_option linter.unusedSimpArgs false
namespace Go.Proofs.YthblaeleogdfpaaGreatDoor
open Go.RowKit
theorem Roll.put {B g : Nat} {a b : World} (h : Roll B g a b) {p : Addr} (hp : B ≤ p.block) (v : Value) : Roll B g a (b.setCell p v) :=
 h.trans (Roll.of_below ((Below.refl B b).setCell hp v) g)
structure KLs (w0 w : World) (g z : Nat) (v : Value) (ts : List Ta) : Prop where
  own : TaSt w w0.heap.size 24 v ts
  ok : ∀ t ∈ ts, TabV t ∧ t.id ≤ (z : Int)
  asc : ts.Pairwise (fun a b => a.id < b.id)
  few : ∀ t ∈ ts, t.cols.length ≤ 3
  dice : KDice w g
  roll : Roll w0.heap.size g w0 w
section
variable {w0 w w' : World} {g z : Nat} {v : Value} {ts : List Ta}
theorem KLs.rolled (h : KLs w0 w g z v ts) (hr : Roll w.heap.size g w w') (hd : KDice w' g) (hg : g < w0.heap.size) : KLs w0 w' g z v ts :=
 ⟨h.own.roll hr (Nat.le_refl _) hg, h.ok, h.asc, h.few, hd, h.roll.trans (hr.mono h.roll.size)⟩
theorem KLs.alloc (h : KLs w0 w g z v ts) (hg : g < w0.heap.size) (O : Obj) : KLs w0 (w.alloc O) g z v ts :=
 h.rolled ((Roll.refl _ _ _).alloc (Nat.le_refl _) O) (h.dice.alloc O) hg
theorem KLs.push (h : KLs w0 w g z v ts) {x : Ta} {z' : Nat} (hx : TabV x) (hxi : x.id = (z' : Int)) (hz : z < z') {L : List Value} {u : Value} {p m cap : Nat} (hm : m = ts.length + 1) (hL : w.ownsRow w0.heap.size 24 3 v ts.length L)
  (hown : w'.ownsRow w0.heap.size 24 3 (.slice (some ⟨p, 0, none⟩) m cap) m (L ++ [.int .i64 x.id, .string x.name, u])) (hgr : w.grownBy w' v.ownBlock) (hat : v.ownBlock = some p ∨ p = w.heap.size)
  (hnew : RdCo w (Own w w0.heap.size v) u x.cols) (hg : g < w0.heap.size) (hx3 : x.cols.length ≤ 3) : KLs w0 w' g z' (.slice (some ⟨p, 0, none⟩) m cap) (ts ++ [x]) := by
 have hv : ∀ k, v.ownBlock = some k → w0.heap.size ≤ k := fun k hk => (hL.lt k hk).1
 have hrz := h.roll.size
 have hx' : ∀ k, k < w0.heap.size → w'.heap[k]? = w.heap[k]? := fun k hk => hgr.block k (by omega) (fun e => by have := hv k e.symm; omega)
 refine ⟨h.own.push hL hm hown hgr hat hnew, ?_, ?_, ?_, h.dice.keep fun k hk => hx' k (by omega), h.roll.trans ⟨hgr.os, hgr.tape, hgr.output, hgr.size, fun k hk _ => hx' k hk⟩⟩
 ·intro y hy
  rcases List.mem_append.1 hy with h1 | h1
  ·exact ⟨(h.ok y h1).1, by have := (h.ok y h1).2; omega⟩
  ·rw [List.mem_singleton.1 h1]; exact ⟨hx, by omega⟩
 ·refine List.pairwise_append.2 ⟨h.asc, List.pairwise_singleton _ _, fun a ha b hb => ?_⟩
  rw [List.mem_singleton.1 hb, hxi]
  have := (h.ok a ha).2
  omega
 ·intro y hy
  rcases List.mem_append.1 hy with h1 | h1
  ·exact h.few y h1
  ·rw [List.mem_singleton.1 h1]; exact hx3
end
def KLis (w : World) (g T : Nat) (e : Ending) (w' : World) : Prop :=
  ∃ (ts : List Ta) (v : Value), e = .returned v ∧ RdTa w' (fun b => w.heap.size ≤ b ∧ b < w'.heap.size) v ts ∧ 0 < ts.length ∧ ts.length ≤ max T 1 ∧ ListV ts ∧ KDice w' g ∧ Roll w.heap.size g w w'
def KLis3 (w : World) (g T : Nat) (e : Ending) (w' : World) : Prop :=
  ∃ (ts : List Ta) (v : Value), e = .returned v ∧ RdTa w' (fun b => w.heap.size ≤ b ∧ b < w'.heap.size) v ts ∧ 0 < ts.length ∧ ts.length ≤ max T 1 ∧ ListV ts ∧ (∀ t ∈ ts, t.cols.length ≤ 3) ∧ KDice w' g ∧ Roll w.heap.size g w w'
theorem derL_three {x0 xs : List Co} (h : DerL x0 xs) (h0 : x0.length ≤ 3) : xs.length ≤ 3 :=
 h (fun ys => ys.length ≤ 3) h0 fun ys o hy _ ho => by
  unfold doL
  split
  ·simpa [projL] using ho.1
  ·simpa [selL] using hy
set_option maxRecDepth 100000 in
set_option maxHeartbeats 4000000 in
theorem kit_Tables3 (g T : Nat) (w : World) (hd : KDice w g) (hT : TabsAt g w) (hT2 : T ≤ 1000) :
  Calls Tryz.prog 32 #[.pointer (some ⟨g, 0, none⟩), .int .i64 (T : Int)] w (KLis3 w g T) := by
 have hgl := hd.lt
 have HD := hid hd
 have HT := hid hT
 obtain ⟨i0, hi, hz0, hz1, hz2⟩ := info_parts info_tab
 clear hd hT
 go_enter Tryz.func32, Tryz.ntmps32
 generalize hLA : Code.loop _ = LA
 go_wp2_with fail
 with_reducible refine (kit_Next g _ _ HD.out (by omega) (by omega)).mono ?_
 rintro e w1 ⟨z0, rfl, hz0', hd1, hr1, hs1⟩
 have HR1 := hid hr1
 have HD1 := hid hd1
 clear hr1 hd1
 go_wp2_with fail
 with_reducible refine (kit_Next g _ _ HD1.out (by omega) (by omega)).mono ?_
 rintro e w2 ⟨k, rfl, hk, hd2, hr2, hs2⟩
 have HR2 := hid (HR1.out.trans (hr2.mono HR1.out.size))
 have HD2 := hid hd2
 have hkT : 1 + k ≤ max T 1 := by omega
 clear hr2 hd2 HR1 HD1
 go_wp2_with fail
 subst hLA
 have hkk : (1 : Int) + (k : Int) = ((1 + k : Nat) : Int) := by omega
 rw [hkk]
 generalize hkm : 1 + k = km at *
 clear hkk hs1 hs2
 go_loopg [5, 6, 7] km (fun N v i n wr => ∃ (ts : List Ta) (z : Nat), i = .int .i64 (z : Int) ∧ n = .int .i64 (N : Int) ∧ ts.length + N = km ∧ z ≤ 1 + 2 * ts.length ∧ Hid (KLs w wr g z v ts))
 case atStart => exact ⟨[], z0, rfl, rfl, by simp, by simp; omega, hid ⟨TaSt.start HR2.out.size, by simp, List.Pairwise.nil, by simp, HD2.out, HR2.out⟩⟩
 case round =>
  obtain ⟨ts, z, rfl, rfl, hl, hz, HST⟩ := hrel
  obtain ⟨L0, hL0⟩ := HST.out.own.owns
  obtain ⟨va, vc, rfl⟩ := own_slice hL0
  have HL0 := hid hL0
  have hrz := HST.out.roll.size
  clear hL0
  generalize hcl : ts.length = L at *
  have HCL := hid hcl
  clear hcl
  by_cases hp : 0 < gk
  ·go_wp2_with fail
   with_reducible refine (kit_Next g _ _ HST.out.dice (by omega) (by omega)).mono ?_
   rintro e w3 ⟨q, rfl, hq, hd3, hr3, -⟩
   have HST3 := hid (HST.out.rolled hr3 hd3 hgl)
   have HL3 := hid (own_roll HL0.out hr3 (Nat.le_refl _) hgl)
   have hz3 := hr3.size
   have HRA3 := hid hr3
   clear hd3 hr3
   obtain ⟨z', hz'⟩ : ∃ z' : Nat, z' = z + (1 + q) := ⟨_, rfl⟩
   have hzz : (z : Int) + (1 + (q : Int)) = (z' : Int) := by omega
   have hzl : z < z' := by omega
   have hzu : z' ≤ 1 + 2 * (L + 1) := by omega
   have hzm : z' ≤ 1073741824 := by omega
   clear hz'
   go_wp2_with fail
   with_reducible refine (kit_Table g _ _ HST3.out.dice).mono ?_
   rintro e w5 ⟨⟨xi, xn, xc⟩, u, rfl, hxi, hok5, hco5, hd5, hr5⟩
   simp only at hxi hok5 hco5
   subst hxi
   have HST5 := hid (HST3.out.rolled hr5 hd5 hgl)
   have HL5 := hid (own_roll HL3.out hr5 (Nat.le_refl _) hgl)
   have HTX : Hid (TabV ⟨(z' : Int), xn, xc⟩) := hid (hok5.valid (by show (0 : Int) ≤ z'; omega) (by show (z' : Int) ≤ 1073741824; omega))
   have H3X : Hid (xc.length ≤ 3) := hid hok5.2.1
   have HRX := hid (hco5.read)
   have HOL : Hid (∀ b, (Value.slice va L vc).ownBlock = some b → b < wr.heap.size) := hid (fun b hb => (HL0.out.lt b hb).2)
   obtain ⟨L5, hL5⟩ := hco5.owns
   obtain ⟨lx, hlx⟩ : ∃ lx, lx = xc.length := ⟨_, rfl⟩
   rw [← hlx] at hL5
   obtain ⟨ua, uc, rfl⟩ := own_slice hL5
   have hrz5 := hr5.size
   have HRA5 := hid ((HRA3.out.trans (hr5.mono hz3)).alloc (by omega) (.cells #[.int .i64 (z' : Int), .string xn, .slice ua lx uc] 24))
   clear hok5 hco5 hd5 hr5 hL5 hlx
   have HB6 := hid (BoxN.new w5 #[.int .i64 (z' : Int), .string xn, .slice ua lx uc] 24)
   have HST6 := hid (HST5.out.alloc hgl (.cells #[.int .i64 (z' : Int), .string xn, .slice ua lx uc] 24))
   have HL6 := hid (HL5.out.alloc (.cells #[.int .i64 (z' : Int), .string xn, .slice ua lx uc] 24))
   have HR6 := hid ((HRX.out.keep (fun p hp => World.cell?_alloc_lt w5 (.cells #[.int .i64 (z' : Int), .string xn, .slice ua lx uc] 24) p hp.2)).more (S' := fun b => wr.heap.size ≤ b ∧ b < w5.heap.size) (fun b hb => ⟨by have := hb.1; omega, hb.2⟩))
   have hz6 : w5.heap.size < (w5.alloc (.cells #[.int .i64 (z' : Int), .string xn, .slice ua lx uc] 24)).heap.size := by simp
   clear HST5 HL5 HRX
   by_cases hL0' : ¬ 0 < L
   ·have hgd : decide ((0 : Int) < (L : Int)) = false := decide_eq_false (by omega)
    go_upto_region 10 with fail
    generalize w5.alloc (.cells #[.int .i64 (z' : Int), .string xn, .slice ua lx uc] 24) = W at *
    have HRY := hid (HR6.out.more (S' := fun b => wr.heap.size ≤ b ∧ b < W.heap.size) (fun b hb => ⟨hb.1, by have := hb.2; omega⟩))
    obtain ⟨yn, hyn⟩ : ∃ yn, yn = xn := ⟨_, rfl⟩
    obtain ⟨yc, hyc⟩ : ∃ yc, yc = xc := ⟨_, rfl⟩
    obtain ⟨lu, hlu⟩ : ∃ lu, lu = lx := ⟨_, rfl⟩
    rw [← hyn, ← hlu] at HB6
    rw [← hlu, ← hyc] at HRY
    have HTV : Hid (TabV ⟨(z' : Int), yn, yc⟩) := hid (by rw [hyn, hyc]; exact HTX.out)
    have H3Y : Hid (yc.length ≤ 3) := hid (by rw [hyc]; exact H3X.out)
    subst hyn hyc hlu
    have HBB := HB6
    have HSTW := HST6
    have HLW := HL6
    have HOB := hid (HLW.out.lt)
    have y0 := HBB.out.cell 0 rfl
    have y1 := HBB.out.cell 1 rfl
    have y2 := HBB.out.cell 2 rfl
    have HOWA := hid (HLW.out.alloc (.cells #[.int .i64 (z' : Int), .string yn, .slice ua lu uc] 24))
    have HNB := hid (BoxN.new W #[.int .i64 (z' : Int), .string yn, .slice ua lu uc] 24)
    go_wp2_with (at_builtin; refine wpList_append_form _ rfl _ _ 68 68 rfl w.heap.size 24 24 i0 (.agg #[.int .i64 0, .string ⟨#[]⟩, .slice none 0 0]) 3 48 Tryz.underlying68 Tryz.underlying68 hi hz0 hz1 hz2 rfl (by decide) (.slice va L vc) L L0 rfl HOWA.out (some ⟨_, 0, none⟩) 1 1 [.int .i64 (z' : Int), .string yn, .slice ua lu uc] rfl rfl (fun _ => ⟨_, rfl, World.news_of_block HNB.out⟩) (by intro u hu; simp at hu; rcases hu with rfl | rfl | rfl <;> rfl) (by omega) (by unfold maxLen; omega) (by omega) (by simp; omega) ?_; intro p7 cap7 w7 hown7 hg7 hat7 hlt7; have HG7 := hid hg7; have HOWN7 := hid hown7; have HAT7 := hid hat7; clear hown7 hg7 hat7)
    have HNEW : Hid (RdCo (W.alloc (.cells #[.int .i64 (z' : Int), .string yn, .slice ua lu uc] 24)) (Own (W.alloc (.cells #[.int .i64 (z' : Int), .string yn, .slice ua lu uc] 24)) w.heap.size (.slice va L vc)) (.slice ua lu uc) yc) := hid ((HRY.out.keep (fun p hp => World.cell?_alloc_lt _ _ _ hp.2)).more (fun b hb => ⟨by have h1 := hb.1; omega, by have := hb.2; simp; omega, fun e => by have := HOL.out _ e; have h1 := hb.1; omega⟩))
    have HL6 : Hid ((W.alloc (.cells #[.int .i64 (z' : Int), .string yn, .slice ua lu uc] 24)).ownsRow w.heap.size 24 3 (.slice va L vc) ts.length L0) := hid (by rw [HCL.out]; exact HOWA.out)
    have HST6 := hid (HSTW.out.alloc hgl (.cells #[.int .i64 (z' : Int), .string yn, .slice ua lu uc] 24))
    have HST7 := hid (HST6.out.push (x := ⟨z', yn, yc⟩) (m := L + 1) HTV.out rfl hzl (by rw [HCL.out]) HL6.out HOWN7.out HG7.out HAT7.out HNEW.out hgl H3Y.out)
    clear HSTW HST6 HNEW HL6 HOWN7 HG7 HAT7 y0 y1 y2
    go_wp2
    go_roundg (gk - 1)
    case rel => exact ⟨ts ++ [⟨z', yn, yc⟩], z', rfl, by go_num, by rw [List.length_append, List.length_singleton, HCL.out]; omega, by rw [List.length_append, List.length_singleton, HCL.out]; omega, HST7⟩
    case measure => omega
   ·have hLp : 0 < L := by omega
    have hgd : decide ((0 : Int) < (L : Int)) = true := decide_eq_true (by omega)
    go_wp2_with fail
    generalize w5.alloc (.cells #[.int .i64 (z' : Int), .string xn, .slice ua lx uc] 24) = W1 at *
    with_reducible refine (kit_Next g _ _ HST6.out.dice (by omega) (by omega)).mono ?_
    rintro e W ⟨r, rfl, hr, hdW, hrW, -⟩
    have HSTW := hid (HST6.out.rolled hrW hdW hgl)
    have HLW := hid (own_roll HL6.out hrW (Nat.le_refl _) hgl)
    have HBB := hid (HB6.out.roll hrW HB6.out.lt (by omega))
    have hzW := hrW.size
    have HRAW := hid (HRA5.out.trans (hrW.mono (by omega)))
    have HRY0 := hid ((HR6.out.keep (fun p hp => hrW.cell (p := p) (by have := hp.2; omega) (by have := hp.1; omega))).more (S' := fun b => wr.heap.size ≤ b ∧ b < W.heap.size) (fun b hb => ⟨hb.1, by have := hb.2; omega⟩))
    clear hdW hrW
    by_cases hr0 : r = 0
    ·subst hr0
     go_wp2_with fail
     with_reducible refine (kit_Next g _ _ HSTW.out.dice (by omega) (by omega)).mono ?_
     rintro e W2 ⟨j, rfl, hj, hd2, hr2, -⟩
     have hjL : j < L := by omega
     have hjLi : (j : Int) < (L : Int) := by omega
     have HST2 := hid (HSTW.out.rolled hr2 hd2 hgl)
     have HL2 := hid (own_roll HLW.out hr2 (Nat.le_refl _) hgl)
     have HB2 := hid (HBB.out.roll hr2 HBB.out.lt (by omega))
     have hz2' := hr2.size
     have HRA2 := hid (HRAW.out.trans (hr2.mono (by omega)))
     clear hd2 hr2 HRY0
     obtain ⟨tv, hN⟩ := HST2.out.own
     have hrow := hN.row
     rw [HCL.out] at hrow
     obtain ⟨gb, cap, e3, hgb, hgz⟩ := hrow.form (by omega)
     obtain ⟨rfl, -, rfl⟩ := Value.slice.inj e3
     clear e3
     have kk : ∀ m, m < 3 → W2.cell? ⟨gb, j * 3 + m, none⟩ = some (taF ts tv j m) := fun m hm => by
      have h1 := hrow.cellAt (j * 3 + m) (by omega)
      exact h1.trans (flatK_at (k := 3) (f := taF ts tv) hjL hm)
     have k0 : W2.cell? ⟨gb, j * 3, none⟩ = some (.int .i64 (ts.getD j Ta.z).id) := kk 0 (by omega)
     have k1 : W2.cell? ⟨gb, j * 3 + 1, none⟩ = some (.string (ts.getD j Ta.z).name) := kk 1 (by omega)
     have k2 : W2.cell? ⟨gb, j * 3 + 2, none⟩ = some (tv j) := kk 2 (by omega)
     have h3j := HST2.out.few _ (getD_mem (l := ts) (i := j) (by rw [HCL.out]; exact hjL) Ta.z)
     have H3J := hid h3j
     have htj := (HST2.out.ok _ (getD_mem (l := ts) (i := j) (by rw [HCL.out]; exact hjL) Ta.z)).1
     have HKD := hid (kit_DerivedS g (ts.getD j Ta.z) (tv j) z' W2 HST2.out.dice (HT.out.roll HST2.out.roll (by omega)) htj ((hN.kids j (by rw [HCL.out]; exact hjL)).more fun b hb => ⟨hb.2.1, by have := hb.1; omega⟩))
     clear hN hrow kk htj h3j
     generalize (ts.getD j Ta.z).id = tji at *
     generalize (ts.getD j Ta.z).name = yn at *
     go_wp2_with fail
     with_reducible refine HKD.out.mono ?_
     clear k0 k1 k2 HKD
     rintro e W3 ⟨yc, yu, rfl, htw, hder, hco, hd3, hr3⟩
     have H3Y : Hid (yc.length ≤ 3) := hid (derL_three hder H3J.out)
     have HTV := hid (htw.tab (id := (z' : Int)) (by omega) (by omega))
     have hb3 := HB2.out.roll hr3 HB2.out.lt (by omega)
     have c0 := hb3.cell 0 rfl
     have c1 := hb3.cell 1 rfl
     have c2 := hb3.cell 2 rfl
     have f0 := hb3.frozen 0
     have f1 := hb3.frozen 1
     have f2 := hb3.frozen 2
     obtain ⟨L5, hL5⟩ := hco.owns
     obtain ⟨lu, hlu⟩ : ∃ lu, lu = yc.length := ⟨_, rfl⟩
     rw [← hlu] at hL5
     obtain ⟨ua', uc', rfl⟩ := own_slice hL5
     have HB3 := hid (((hb3.set 0 (.int .i64 (z' : Int))).set 1 (.string yn)).set 2 (.slice ua' lu uc'))
     have hz3' := hr3.size
     have HRD3 := hid hco.read
     have HRA4 := hid ((((HRA2.out.trans (hr3.mono (by omega))).put (p := ⟨w5.heap.size, 0, none⟩) (by show wr.heap.size ≤ w5.heap.size; omega) (.int .i64 (z' : Int))).put (p := ⟨w5.heap.size, 1, none⟩) (by show wr.heap.size ≤ w5.heap.size; omega) (.string yn)).put (p := ⟨w5.heap.size, 2, none⟩) (by show wr.heap.size ≤ w5.heap.size; omega) (.slice ua' lu uc'))
     have HD4 := hid (((hd3.store (p := ⟨w5.heap.size, 0, none⟩) (by show g < w5.heap.size; omega) (.int .i64 (z' : Int))).store (p := ⟨w5.heap.size, 1, none⟩) (by show g < w5.heap.size; omega) (.string yn)).store (p := ⟨w5.heap.size, 2, none⟩) (by show g < w5.heap.size; omega) (.slice ua' lu uc'))
     have HRD4 := hid ((HRD3.out.keep (w' := ((W3.setCell ⟨w5.heap.size, 0, none⟩ (.int .i64 (z' : Int))).setCell ⟨w5.heap.size, 1, none⟩ (.string yn)).setCell ⟨w5.heap.size, 2, none⟩ (.slice ua' lu uc')) (fun p hp => by
      have hne : p.block ≠ w5.heap.size := by have := hp.1; omega
      rw [World.cell?_setCell_other _ _ _ _ (by intro e; subst e; exact hne rfl), World.cell?_setCell_other _ _ _ _ (by intro e; subst e; exact hne rfl), World.cell?_setCell_other _ _ _ _ (by intro e; subst e; exact hne rfl)])))
     clear htw hder H3J hco hd3 hr3 hb3 hL5 hlu
     go_upto_region 10 with fail
     clear c0 c1 c2 f0 f1 f2
     have hz4 : W3.heap.size = (((W3.setCell ⟨w5.heap.size, 0, none⟩ (.int .i64 (z' : Int))).setCell ⟨w5.heap.size, 1, none⟩ (.string yn)).setCell ⟨w5.heap.size, 2, none⟩ (.slice ua' lu uc')).heap.size := by simp
     generalize ((W3.setCell ⟨w5.heap.size, 0, none⟩ (.int .i64 (z' : Int))).setCell ⟨w5.heap.size, 1, none⟩ (.string yn)).setCell ⟨w5.heap.size, 2, none⟩ (.slice ua' lu uc') = W4 at *
     have hz4' : W3.heap.size ≤ W4.heap.size := Nat.le_of_eq hz4
     have HRY := hid (HRD4.out.more (S' := fun b => wr.heap.size ≤ b ∧ b < W4.heap.size) (fun b hb => ⟨by have := hb.1; omega, by have := hb.2; omega⟩))
     clear hz4
     have HSTX := hid (HST.out.rolled HRA4.out HD4.out hgl)
     have HLX := hid (own_roll HL0.out HRA4.out (Nat.le_refl _) hgl)
     clear HBB HSTW HLW HRA4 HRD4 HRD3 HD4 HRA2 HST2 HL2 HB2
     obtain ⟨W, rfl⟩ : ∃ W, W = W4 := ⟨W4, rfl⟩
     have HBB := HB3
     have HSTW := HSTX
     have HLW := HLX
     have HOB := hid (HLW.out.lt)
     have y0 := HBB.out.cell 0 rfl
     have y1 := HBB.out.cell 1 rfl
     have y2 := HBB.out.cell 2 rfl
     have HOWA := hid (HLW.out.alloc (.cells #[.int .i64 (z' : Int), .string yn, .slice ua' lu uc'] 24))
     have HNB := hid (BoxN.new W #[.int .i64 (z' : Int), .string yn, .slice ua' lu uc'] 24)
     go_wp2_with (at_builtin; refine wpList_append_form _ rfl _ _ 68 68 rfl w.heap.size 24 24 i0 (.agg #[.int .i64 0, .string ⟨#[]⟩, .slice none 0 0]) 3 48 Tryz.underlying68 Tryz.underlying68 hi hz0 hz1 hz2 rfl (by decide) (.slice (some ⟨gb, 0, none⟩) L vc) L L0 rfl HOWA.out (some ⟨_, 0, none⟩) 1 1 [.int .i64 (z' : Int), .string yn, .slice ua' lu uc'] rfl rfl (fun _ => ⟨_, rfl, World.news_of_block HNB.out⟩) (by intro u hu; simp at hu; rcases hu with rfl | rfl | rfl <;> rfl) (by omega) (by unfold maxLen; omega) (by omega) (by simp; omega) ?_; intro p7 cap7 w7 hown7 hg7 hat7 hlt7; have HG7 := hid hg7; have HOWN7 := hid hown7; have HAT7 := hid hat7; clear hown7 hg7 hat7)
     have HNEW : Hid (RdCo (W.alloc (.cells #[.int .i64 (z' : Int), .string yn, .slice ua' lu uc'] 24)) (Own (W.alloc (.cells #[.int .i64 (z' : Int), .string yn, .slice ua' lu uc'] 24)) w.heap.size (.slice (some ⟨gb, 0, none⟩) L vc)) (.slice ua' lu uc') yc) := hid ((HRY.out.keep (fun p hp => World.cell?_alloc_lt _ _ _ hp.2)).more (fun b hb => ⟨by have h1 := hb.1; omega, by have := hb.2; simp; omega, fun e => by have := HOL.out _ e; have h1 := hb.1; omega⟩))
     have HL6 : Hid ((W.alloc (.cells #[.int .i64 (z' : Int), .string yn, .slice ua' lu uc'] 24)).ownsRow w.heap.size 24 3 (.slice (some ⟨gb, 0, none⟩) L vc) ts.length L0) := hid (by rw [HCL.out]; exact HOWA.out)
     have HST6 := hid (HSTW.out.alloc hgl (.cells #[.int .i64 (z' : Int), .string yn, .slice ua' lu uc'] 24))
     have HST7 := hid (HST6.out.push (x := ⟨z', yn, yc⟩) (m := L + 1) HTV.out rfl hzl (by rw [HCL.out]) HL6.out HOWN7.out HG7.out HAT7.out HNEW.out hgl H3Y.out)
     clear HSTW HST6 HNEW HL6 HOWN7 HG7 HAT7 y0 y1 y2
     go_wp2
     go_roundg (gk - 1)
     case rel => exact ⟨ts ++ [⟨z', yn, yc⟩], z', rfl, by go_num, by rw [List.length_append, List.length_singleton, HCL.out]; omega, by rw [List.length_append, List.length_singleton, HCL.out]; omega, HST7⟩
     case measure => omega
    ·have hre : ¬ ((r : Int) = 0) := by omega
     go_upto_region 10 with fail
     have HRY := HRY0
     obtain ⟨yn, hyn⟩ : ∃ yn, yn = xn := ⟨_, rfl⟩
     obtain ⟨yc, hyc⟩ : ∃ yc, yc = xc := ⟨_, rfl⟩
     obtain ⟨lu, hlu⟩ : ∃ lu, lu = lx := ⟨_, rfl⟩
     rw [← hyn, ← hlu] at HBB
     rw [← hlu, ← hyc] at HRY
     have HTV : Hid (TabV ⟨(z' : Int), yn, yc⟩) := hid (by rw [hyn, hyc]; exact HTX.out)
     have H3Y : Hid (yc.length ≤ 3) := hid (by rw [hyc]; exact H3X.out)
     subst hyn hyc hlu
     have HOB := hid (HLW.out.lt)
     have y0 := HBB.out.cell 0 rfl
     have y1 := HBB.out.cell 1 rfl
     have y2 := HBB.out.cell 2 rfl
     have HOWA := hid (HLW.out.alloc (.cells #[.int .i64 (z' : Int), .string yn, .slice ua lu uc] 24))
     have HNB := hid (BoxN.new W #[.int .i64 (z' : Int), .string yn, .slice ua lu uc] 24)
     go_wp2_with (at_builtin; refine wpList_append_form _ rfl _ _ 68 68 rfl w.heap.size 24 24 i0 (.agg #[.int .i64 0, .string ⟨#[]⟩, .slice none 0 0]) 3 48 Tryz.underlying68 Tryz.underlying68 hi hz0 hz1 hz2 rfl (by decide) (.slice va L vc) L L0 rfl HOWA.out (some ⟨_, 0, none⟩) 1 1 [.int .i64 (z' : Int), .string yn, .slice ua lu uc] rfl rfl (fun _ => ⟨_, rfl, World.news_of_block HNB.out⟩) (by intro u hu; simp at hu; rcases hu with rfl | rfl | rfl <;> rfl) (by omega) (by unfold maxLen; omega) (by omega) (by simp; omega) ?_; intro p7 cap7 w7 hown7 hg7 hat7 hlt7; have HG7 := hid hg7; have HOWN7 := hid hown7; have HAT7 := hid hat7; clear hown7 hg7 hat7)
     have HNEW : Hid (RdCo (W.alloc (.cells #[.int .i64 (z' : Int), .string yn, .slice ua lu uc] 24)) (Own (W.alloc (.cells #[.int .i64 (z' : Int), .string yn, .slice ua lu uc] 24)) w.heap.size (.slice va L vc)) (.slice ua lu uc) yc) := hid ((HRY.out.keep (fun p hp => World.cell?_alloc_lt _ _ _ hp.2)).more (fun b hb => ⟨by have h1 := hb.1; omega, by have := hb.2; simp; omega, fun e => by have := HOL.out _ e; have h1 := hb.1; omega⟩))
     have HL6 : Hid ((W.alloc (.cells #[.int .i64 (z' : Int), .string yn, .slice ua lu uc] 24)).ownsRow w.heap.size 24 3 (.slice va L vc) ts.length L0) := hid (by rw [HCL.out]; exact HOWA.out)
     have HST6 := hid (HSTW.out.alloc hgl (.cells #[.int .i64 (z' : Int), .string yn, .slice ua lu uc] 24))
     have HST7 := hid (HST6.out.push (x := ⟨z', yn, yc⟩) (m := L + 1) HTV.out rfl hzl (by rw [HCL.out]) HL6.out HOWN7.out HG7.out HAT7.out HNEW.out hgl H3Y.out)
     clear HSTW HST6 HNEW HL6 HOWN7 HG7 HAT7 y0 y1 y2
     go_wp2
     go_roundg (gk - 1)
     case rel => exact ⟨ts ++ [⟨z', yn, yc⟩], z', rfl, by go_num, by rw [List.length_append, List.length_singleton, HCL.out]; omega, by rw [List.length_append, List.length_singleton, HCL.out]; omega, HST7⟩
     case measure => omega
  ·obtain rfl : gk = 0 := by omega
   have HFIN : Hid (KLis3 w g T (.returned (.slice va L vc)) wr) := hid (by
    have h1 := HCL.out
    subst h1
    exact ⟨ts, _, rfl, HST.out.own.read, by omega, by omega, ⟨by omega, fun t ht => (HST.out.ok t ht).1, HST.out.asc⟩, HST.out.few, HST.out.dice, HST.out.roll⟩)
   go_wp2
   go_ret
   exact HFIN.out
theorem kit_Tables (g T : Nat) (w : World) (hd : KDice w g) (hT : TabsAt g w) (hT2 : T ≤ 1000) :
  Calls Tryz.prog 32 #[.pointer (some ⟨g, 0, none⟩), .int .i64 (T : Int)] w (KLis w g T) :=
 (kit_Tables3 g T w hd hT hT2).mono fun e w' h => by
  obtain ⟨ts, v, h1, h2, h3, h4, h5, -, h6⟩ := h
  exact ⟨ts, v, h1, h2, h3, h4, h5, h6⟩
end Go.Proofs.YthblaeleogdfpaaGreatDoor
