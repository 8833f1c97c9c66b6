/- Contract of explain.ascending (tables of few rows). -/
import Derived.Test.YtfmlpaplnkohpaaGreatDoorLnRtax
import Derived.Test.YtfmlpaplnkohpaaGreatDoorLnRtav
set_option linter.unusedVariables false
set_option linter.unusedSimpArgs false
namespace Go.Proofs.YtfmlpaplnkohpaaGreatDoor
open Go.RowKit

set_option maxRecDepth 100000 in
set_option maxHeartbeats 2000000 in
theorem stable_sort (xs : List Co) (o : Po) (hk : o.kind = 5) (n b cb : Nat) (w : World) (hN : Nums w b (List.range n)) (hn : n ≤ 19)
    (H : ∀ x y, x < n → y < n → ∀ W, Roll w.heap.size b w W → Calls Tryz.prog 160 #[.int .i64 (x : Int), .int .i64 (y : Int), .pointer (some ⟨cb, 0, none⟩)] W (Ret W (.int .i64 (cmpC (cellAt xs o.col.toNat x) (cellAt xs o.col.toNat y))))) :
    Calls Tryz.prog 159 #[.slice (some ⟨b, 0, none⟩) n n, .func (.func 160) #[] #[.pointer (some ⟨cb, 0, none⟩)]] w
      (fun e w' => e = .returned (.tuple #[]) ∧ Nums w' b (rowsL xs o n) ∧ Roll w.heap.size b w w') := by
  have HIN := hid (ins_sort xs o hk n b cb w hN (by omega) H)
  have HST : Hid (Calls Tryz.prog 179 #[.slice (some ⟨b, 0, none⟩) n n, .int .i64 (n : Int), .func (.func 160) #[] #[.pointer (some ⟨cb, 0, none⟩)]] w
      (fun e w' => e = .returned (.tuple #[]) ∧ Nums w' b (rowsL xs o n) ∧ Roll w.heap.size b w w')) := hid (by
    clear H hN
    generalize rowsL xs o n = R at *
    have h1 : ¬ (20 : Int) ≤ (n : Int) := by omega
    have h2 : ¬ (20 : Int) < (n : Int) := by omega
    go_enter Tryz.func179, Tryz.ntmps179
    go_wp2_with fail
    refine wp_loop_rounds 1 ?_
    rw [rounds_succ]
    go_wp2_with fail
    with_reducible refine HIN.out.mono ?_
    rintro e w1 ⟨rfl, hn1, hr1⟩
    have HN1 := hid hn1
    have HR1 := hid hr1
    clear hn1 hr1
    go_wp2_with fail
    refine wp_loop_rounds 1 ?_
    rw [rounds_succ]
    go_wp2
    go_end0
    exact ⟨rfl, HN1.out, HR1.out⟩)
  clear H hN HIN
  generalize rowsL xs o n = R at *
  go_enter Tryz.func159, Tryz.ntmps159
  go_wp2_with fail
  with_reducible refine HST.out.mono ?_
  rintro e w1 ⟨rfl, hn1, hr1⟩
  have HN1 := hid hn1
  have HR1 := hid hr1
  clear hn1 hr1
  go_wp2
  go_end0
  exact ⟨rfl, HN1.out, HR1.out⟩

set_option maxRecDepth 100000 in
set_option maxHeartbeats 4000000 in
theorem expl_ascending (o : Po) (hk : o.kind = 5) (id : Int) (nm : ByteArray) (v u : Value) (xs : List Co) (n B : Nat) (w : World) (hv : RdCo w (· < B) v xs) (hB : B ≤ w.heap.size) (hcol : 0 ≤ o.col ∧ o.col < xs.length) (hl : xs.length ≤ 1048576) (hc : ∀ x ∈ xs, x.cells.length = n) (hn : rowsC xs = n) (hn4 : n ≤ 19) (hu : ∃ ua un uc, u = .slice ua un uc) :
    Calls Tryz.prog 120 #[.agg #[.int .i64 id, .string nm, v], o.val u] w (NewT w id nm (doL xs o)) := by
  have hk3 : o.kind ≠ 3 := by omega
  have hdo : doL xs o = selL xs (rowsL xs o n) := by rw [doL_rows hk3, hn]
  rw [hdo]
  obtain ⟨kk, hkk⟩ : ∃ kk : Nat, o.col = (kk : Int) := ⟨o.col.toNat, by omega⟩
  have hkl : kk < xs.length := by omega
  have hkeep := fun W (hW : Below w.heap.size w W) => (hv.keep fun p (hp : p.block < B) => hW.cell (p := p) (by omega) : RdCo W (· < B) v xs)
  have hRW := fun W (hW : Below w.heap.size w W) => expl_rows id nm v xs B W (hkeep W hW) (Nat.le_trans hB hW.size) (by omega)
  rw [hn] at hRW
  have HRW := hid hRW
  have HPK := hid (fun y F W (hW : Below w.heap.size w W) (hF : ∀ r ∈ F, r < n) (hFl : F.length ≤ n) (hy : Rd W W.heap.size y F.length (natF F)) => expl_pick id nm v y xs F W.heap.size n W ((hkeep W hW).more fun b (hb : b < B) => by show b < W.heap.size; have := hW.size; omega) hy (Nat.le_refl _) hl hc (by omega) hF (by omega))
  have HF1 : Hid (∀ r ∈ rowsL xs o n, r < n) := hid (rowsL_ok xs o n).2
  have hFl : (rowsL xs o n).length = n := rowsL_slen hk n
  obtain ⟨cv, hcv, hcl⟩ := hv
  have hclk := hcl kk hkl
  have hcn := hc _ (getD_mem hkl Co.z)
  have HSS := hid (fun b cb W (hW : Below w.heap.size w W) (hN : Nums W b (List.range n)) (hb : w.heap.size ≤ b) (hcb : W.cell? ⟨cb, 0, none⟩ = some (cv kk)) (hcz : cb < W.heap.size) (hne : cb ≠ b) =>
    stable_sort xs o hk n b cb W hN hn4 (fun x y hx hy W' hW' => by
      have h := expl_asc1 (xs.getD kk Co.z).cells (cv kk) cb B x y W' ((hclk.keep fun p (hp : p.block < B) => hW.cell (p := p) (by omega)).keep fun p (hp : p.block < B) => hW'.cell (p := p) (by have := hW.size; omega) (by omega)) (by have := hW.size; have := hW'.size; omega) ((hW'.cell (p := ⟨cb, 0, none⟩) hcz hne).trans hcb) (Nat.lt_of_lt_of_le hcz hW'.size) (by omega) (by omega)
      have e : o.col.toNat = kk := by omega
      rw [e]
      exact h))
  obtain ⟨va, vc, rfl, hvc, hvm, hr⟩ := hcv
  obtain ⟨b, oo, rfl, hb, hcell⟩ := hr (by omega)
  have hbw : b < w.heap.size := by have : b < B := hb; omega
  have k1 : w.cell? ⟨b, oo + kk * 2 + 1, none⟩ = some (cv kk) := hcell kk hkl 1 (by omega)
  obtain ⟨ca, ck, hcq, -⟩ := hclk
  rw [hcq] at k1 HSS
  rw [hcn] at k1 HSS
  obtain ⟨ua, un, uc, rfl⟩ := hu
  unfold maxLen at hvm
  clear hkeep hRW hc hn hk hk3 hdo hcell hr hcl hcq hcn
  generalize hFF : rowsL xs o n = F at *
  clear hFF
  obtain ⟨kind, col, text, cols⟩ := o
  simp only [Po.val] at *
  subst hkk
  have hkl' : (kk : Int) < (xs.length : Int) := by omega
  generalize hxl : xs.length = L at *
  have HXL := hid hxl
  clear hxl
  have HX0 := hid (((BoxN.new w #[.int .i64 id, .string nm, .slice (some ⟨b, oo, none⟩) L vc] 29).alloc (.cells #[.int .i64 kind, .int .i64 (kk : Int), .string text, .slice ua un uc] 47)).alloc (.cells #[.int .i64 0, .string ⟨#[]⟩, .slice none 0 0] 29))
  have ho0 := (BoxN.new (w.alloc (.cells #[.int .i64 id, .string nm, .slice (some ⟨b, oo, none⟩) L vc] 29)) #[.int .i64 kind, .int .i64 (kk : Int), .string text, .slice ua un uc] 47).alloc (.cells #[.int .i64 0, .string ⟨#[]⟩, .slice none 0 0] 29)
  rw [World.size_alloc] at ho0
  have HO0 := hid ho0
  have HB0 := hid ((((Below.refl w.heap.size w).alloc (Nat.le_refl _) (.cells #[.int .i64 id, .string nm, .slice (some ⟨b, oo, none⟩) L vc] 29)).alloc (by simp) (.cells #[.int .i64 kind, .int .i64 (kk : Int), .string text, .slice ua un uc] 47)).alloc (by simp; omega) (.cells #[.int .i64 0, .string ⟨#[]⟩, .slice none 0 0] 29))
  have hy0 := BoxN.new ((w.alloc (.cells #[.int .i64 id, .string nm, .slice (some ⟨b, oo, none⟩) L vc] 29)).alloc (.cells #[.int .i64 kind, .int .i64 (kk : Int), .string text, .slice ua un uc] 47)) #[.int .i64 0, .string ⟨#[]⟩, .slice none 0 0] 29
  rw [World.size_alloc, World.size_alloc] at hy0
  have HY0 := hid hy0
  have hz0' : (((w.alloc (.cells #[.int .i64 id, .string nm, .slice (some ⟨b, oo, none⟩) L vc] 29)).alloc (.cells #[.int .i64 kind, .int .i64 (kk : Int), .string text, .slice ua un uc] 47)).alloc (.cells #[.int .i64 0, .string ⟨#[]⟩, .slice none 0 0] 29)).heap.size = w.heap.size + 3 := by simp
  have x0 := HX0.out.cell 0 rfl
  have x1 := HX0.out.cell 1 rfl
  have x2 := HX0.out.cell 2 rfl
  clear hy0 ho0
  go_enter Tryz.func120, Tryz.ntmps120
  go_wp2_with fail
  generalize ((w.alloc (.cells #[.int .i64 id, .string nm, .slice (some ⟨b, oo, none⟩) L vc] 29)).alloc (.cells #[.int .i64 kind, .int .i64 (kk : Int), .string text, .slice ua un uc] 47)).alloc (.cells #[.int .i64 0, .string ⟨#[]⟩, .slice none 0 0] 29) = W0 at *
  have hz0a := Nat.le_of_eq hz0'
  have hz0b := Nat.le_of_eq hz0'.symm
  clear hz0'
  with_reducible refine (HRW.out W0 HB0.out).mono ?_
  rintro e w1 ⟨b1, rfl, hN1, hbb1, hb1⟩
  have HB1 := hid (HB0.out.trans (hb1.mono (by omega)))
  have HX1 := hid (HX0.out.below hb1 HX0.out.lt)
  have HY1 := hid (HY0.out.below hb1 HY0.out.lt)
  have HO1 := hid (HO0.out.below hb1 HO0.out.lt)
  have hz1 := hb1.size
  have hb1l := World.rowIs.lt hN1
  have k1' := (HB1.out.cell (p := ⟨b, oo + kk * 2 + 1, none⟩) hbw).trans k1
  have HN2 := hid (hN1.later (w' := w1.alloc (.cells #[.slice ca n ck] 37)) (Below.heap_alloc _ _ _ hb1l))
  have HB2 := hid (HB1.out.alloc (by omega) (.cells #[.slice ca n ck] 37))
  have HX2 := hid (HX1.out.alloc (.cells #[.slice ca n ck] 37))
  have HY2 := hid (HY1.out.alloc (.cells #[.slice ca n ck] 37))
  have HC2 := hid (BoxN.new w1 #[.slice ca n ck] 37)
  have hz2 : (w1.alloc (.cells #[.slice ca n ck] 37)).heap.size = w1.heap.size + 1 := by simp
  clear x0 x1 x2 hb1 hN1 k1 HRW
  have x2 := HX1.out.cell 2 rfl
  have o1 := HO1.out.cell 1 rfl
  go_wp2_with fail
  generalize w1.alloc (.cells #[.slice ca n ck] 37) = W2 at *
  have hz2a := Nat.le_of_eq hz2
  have hz2b := Nat.le_of_eq hz2.symm
  clear hz2 x2 o1 k1'
  with_reducible refine (HSS.out b1 w1.heap.size W2 HB2.out HN2.out (by omega) (HC2.out.cell 0 rfl) (by omega) (by omega)).mono ?_
  rintro e w3 ⟨rfl, hN3, hr3⟩
  have HB3 := hid (HB2.out.trans (hr3.below (B' := w.heap.size) (by omega) (by omega)))
  have HX3 := hid (HX2.out.roll hr3 (by omega) (by omega))
  have HY3 := hid (HY2.out.roll hr3 (by omega) (by omega))
  have hz3 := hr3.size
  have HRD3 : Hid (Rd w3 w3.heap.size (.slice (some ⟨b1, 0, none⟩) F.length n) F.length (natF F)) := hid ⟨_, _, rfl, by omega, by unfold maxLen; omega, fun _ => ⟨b1, 0, rfl, World.rowIs.lt hN3, fun i hi => by rw [Nat.zero_add]; exact World.rowIs.cell hN3 hi⟩⟩
  have HPK3 := hid (HPK.out _ F w3 HB3.out HF1.out (by omega) HRD3.out)
  rw [hFl] at HPK3
  clear hN3 hr3 HRD3 HPK HSS
  have x0 := HX3.out.cell 0 rfl
  have x1 := HX3.out.cell 1 rfl
  have x2 := HX3.out.cell 2 rfl
  go_wp2_with fail
  with_reducible refine HPK3.out.mono ?_
  rintro e w7 ⟨y, rfl, hco7, hb7⟩
  have HB7 := hid (HB3.out.trans (hb7.mono (by omega)))
  have HCO7 := hid hco7
  have hyy := HY3.out.below hb7 HY3.out.lt
  have y0 := hyy.cell 0 rfl
  have y1 := hyy.cell 1 rfl
  have y2 := hyy.cell 2 rfl
  have f0 := hyy.frozen 0
  have f1 := hyy.frozen 1
  have f2 := hyy.frozen 2
  obtain ⟨L7, hL7⟩ := hco7.owns
  rw [selL_len, HXL.out] at hL7
  obtain ⟨ya, yc, rfl⟩ := own_slice hL7
  clear hb7 hco7 hyy hL7 x0 x1 x2
  go_wp2
  refine bodyPost_ret (v := .agg #[.int .i64 id, .string nm, .slice ya L yc]) (by simp [results, Tryz.results120, go_sem, y0, y1, y2]) rfl ⟨_, rfl, ?_, by have := HB7.out; repeat' (first | (with_reducible exact Below.refl _ _) | (with_reducible assumption) | (with_reducible refine below_drewN ?_) | (with_reducible refine Below.alloc ?_ ?_ _) | (with_reducible refine Below.drew ?_) | (with_reducible refine Below.setCell ?_ ?_ _) | (with_reducible refine Below.trans ?_ (Below.mono (by with_reducible assumption) ?_)) | go_size)⟩
  exact (((HCO7.out.setCell (p := ⟨w.heap.size + 2, 0, none⟩) (by show w.heap.size + 2 < w3.heap.size; omega) _).setCell (p := ⟨w.heap.size + 2, 1, none⟩) (by show w.heap.size + 2 < w3.heap.size; omega) _).setCell (p := ⟨w.heap.size + 2, 2, none⟩) (by show w.heap.size + 2 < w3.heap.size; omega) _).lower (by omega)
end Go.Proofs.YtfmlpaplnkohpaaGreatDoor
