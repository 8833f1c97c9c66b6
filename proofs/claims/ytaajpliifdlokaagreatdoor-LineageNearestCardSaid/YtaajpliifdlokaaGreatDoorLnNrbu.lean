/- Contract of ref38.Find: what it finds is as short as what explain finds. -/
import Derived.Deep.Cut
import Derived.Deep.CutRange
import Derived.Deep.RegionHeldLaw
import Derived.Test.YtaajpliifdlokaaGreatDoorLnNrbr
import Derived.Test.YtaajpliifdlokaaGreatDoorLnNrbs
import Derived.Test.YtaajpliifdlokaaGreatDoorLnNrbt
import Derived.Test.YtaajpliifdlokaaGreatDoorLnNrbm
set_option linter.unusedVariables false
set_option linter.unusedSimpArgs false
namespace Go.Proofs.YtaajpliifdlokaaGreatDoor
open Go.RowKit
def RFindP (w : World) (a b : List Co) (e : Ending) (w' : World) : Prop :=
  ∃ (x : Option Addr) (n y : Nat) (ok : Bool), e = .returned (.tuple #[.slice x n y, .bool ok]) ∧ Below w.heap.size w w' ∧ (ok = true → ∃ l, findL a b = some l ∧ l.length ≤ n)
theorem rdCo_nxF {w w' : World} {v : Value} {xs : List Co} (h : RdCo w (· < w.heap.size) v xs) (hb : Below w.heap.size w w') : RdCo w' (· < w'.heap.size) v xs :=
  (h.keep fun p (hp : p.block < w.heap.size) => hb.cell (p := p) hp).more fun b (hb' : b < w.heap.size) => Nat.lt_of_lt_of_le hb' hb.size
set_option maxRecDepth 100000 in
set_option maxHeartbeats 8000000 in
theorem ref38_Find (ia ib : Int) (na nb : ByteArray) (u v : Value) (xs ys : List Co) (w : World) (hta : TabV ⟨ia, na, xs⟩) (htb : TabV ⟨ib, nb, ys⟩) (hx : Few xs) (hu : RdCo w (· < w.heap.size) u xs) (hv : RdCo w (· < w.heap.size) v ys) (hT : Tabs w) :
  Calls Tryz.prog 33 #[.agg #[.int .i64 ia, .string na, u], .agg #[.int .i64 ib, .string nb, v]] w (RFindP w xs ys) := by
 obtain ⟨nn, hn19, hcvx⟩ := id hx
 have hla : xs.length ≤ 64 := hta.2.2.2.1
 have hlb : ys.length ≤ 64 := htb.2.2.2.1
 have HUf := hid (fun W (hW : Below w.heap.size w W) => rdCo_nxF hu hW)
 have HVf := hid (fun W (hW : Below w.heap.size w W) => rdCo_nxF hv hW)
 have HTf := hid (fun W (hW : Below w.heap.size w W) => hT.below hW)
 have HVA := hid (fun W (hW : Below w.heap.size w W) => ref_ValidTab ⟨ia, na, xs⟩ u W.heap.size W hta (HUf.out W hW) (Nat.le_refl _) (HTf.out W hW))
 have HVB := hid (fun W (hW : Below w.heap.size w W) => ref_ValidTab ⟨ib, nb, ys⟩ v W.heap.size W htb (HVf.out W hW) (Nat.le_refl _) (HTf.out W hW))
 have HPR := hid (fun W (hW : Below w.heap.size w W) => ref38_project ia ib na nb u v xs ys W.heap.size W (HUf.out W hW) (HVf.out W hW) (Nat.le_refl _) hla hlb)
 have HFI := hid (fun W (hW : Below w.heap.size w W) => ref38_filters ia na u xs W.heap.size nn W (HUf.out W hW) (Nat.le_refl _) hla (fun x hxx => (hcvx x hxx).2.1) (by omega))
 have HDO := hid (fun (cs : List Co) (o : Po) (y uu : Value) (W : World) (hW : Below w.heap.size w W) (hy : RdCo W (· < W.heap.size) y cs) (hk : RdKs W (· < W.heap.size) uu o.cols) (h1 : TabV ⟨ia, na, cs⟩) (h2 : canL cs.length o = true) (h3 : o.text.size ≤ 1048576) => ref38_do ⟨ia, na, cs⟩ y uu o W.heap.size W h1 hy hk.op (Nat.le_refl _) (HTf.out W hW) h2 (by omega))
 have HRW := hid (fun (id : Int) (nm : ByteArray) (y : Value) (cs : List Co) (W : World) (hy : RdCo W (· < W.heap.size) y cs) => ref03_Rows id nm y cs W.heap.size W hy (Nat.le_refl _))
 have HSC := hid (fun (y : Value) (cs : List Co) (W : World) (hW : Below w.heap.size w W) (hy : RdCo W (· < W.heap.size) y cs) => ref_SameColsD ia ib na nb cs ys y v W.heap.size W hy (HVf.out W hW) (Nat.le_refl _))
 have HCB := hid (fun f p hf hp => @can_begin xs ys nn f p hcvx hlb hf hp)
 have HTX := hid (fun f p (hf : f ∈ filtersL xs) (hp : projOf xs ys = some p) => (by
  intro o ho
  rcases List.mem_append.1 ho with h | h
  ·exact text_take hcvx hf o h
  ·exact text_proj hp o h : ∀ o ∈ f ++ p, o.text.size ≤ 1048576))
 have HTT := hid (fun os i (hc : canRun xs os = true) (hi : i ≤ os.length) => tab_take (os := os) (i := i) hta hc hi)
 have HFN := hid (fun f p d s hf hp hd hs hr hn => @find_weak xs ys f p d s hf hp hd hs hr hn)
 have HFLn : Hid ((filtersL xs).length ≤ 300000) := hid (by
  have h1 := filtTo_len (n := nn) (fun x hxx => Nat.le_of_eq ((hcvx x hxx).2.1)) xs.length (Nat.le_refl _)
  have h2 : xs.length * (nn + 1) ≤ 64 * 20 := Nat.mul_le_mul hla (by omega)
  rw [filt_all] at h1
  omega)
 simp only at HVA HVB HDO
 obtain ⟨ua, uc, rfl⟩ := rdCo_len hu
 obtain ⟨va, vc, rfl⟩ := rdCo_len hv
 clear hta htb hx hu hv hT hcvx
 generalize hal : xs.length = La at *
 generalize hbl : ys.length = Lb at *
 have HAL := hid hal
 have HBL := hid hbl
 clear hal hbl
 have hxA := (BoxN.new w #[.int .i64 ia, .string na, .slice ua La uc] 51).alloc (.cells #[.int .i64 ib, .string nb, .slice va Lb vc] 51)
 have hxB := BoxN.new (w.alloc (.cells #[.int .i64 ia, .string na, .slice ua La uc] 51)) #[.int .i64 ib, .string nb, .slice va Lb vc] 51
 rw [World.size_alloc] at hxB
 have hs0 := ((Below.refl w.heap.size w).alloc (Nat.le_refl _) (.cells #[.int .i64 ia, .string na, .slice ua La uc] 51)).alloc (by simp) (.cells #[.int .i64 ib, .string nb, .slice va Lb vc] 51)
 obtain ⟨W0, hW0⟩ : ∃ W, W = (w.alloc (.cells #[.int .i64 ia, .string na, .slice ua La uc] 51)).alloc (.cells #[.int .i64 ib, .string nb, .slice va Lb vc] 51) := ⟨_, rfl⟩
 rw [← hW0] at hxA hxB hs0
 have HXA := hid (fun W (hW : Below W0.heap.size W0 W) => hxA.below hW hxA.lt)
 have HXB := hid (fun W (hW : Below W0.heap.size W0 W) => hxB.below hW hxB.lt)
 have HS0 := hid hs0
 have HB0 := hid (fun W (hW : Below W0.heap.size W0 W) => hs0.trans (hW.mono hs0.size))
 have a0 := hxA.cell 0 rfl
 have a1 := hxA.cell 1 rfl
 have a2 := hxA.cell 2 rfl
 rw [hW0] at a0 a1 a2
 clear hxA hxB hs0
 go_enter Tryz.func33, Tryz.ntmps33
 generalize hLA : Code.loop _ = LA
 go_wp2_with fail
 rw [← hW0]
 clear a0 a1 a2 hW0
 with_reducible refine (HVA.out W0 HS0.out).mono ?_
 rintro e w1 ⟨rfl, hb1⟩
 have HS1 := hid hb1
 have b0 := (HXB.out w1 hb1).cell 0 rfl
 have b1 := (HXB.out w1 hb1).cell 1 rfl
 have b2 := (HXB.out w1 hb1).cell 2 rfl
 clear hb1
 go_wp2_with fail
 clear b0 b1 b2
 with_reducible refine (HVB.out w1 (HB0.out w1 HS1.out)).mono ?_
 rintro e w2 ⟨rfl, hb2⟩
 have HS2 := hid (HS1.out.trans (hb2.mono HS1.out.size))
 have a0 := (HXA.out w2 HS2.out).cell 0 rfl
 have a1 := (HXA.out w2 HS2.out).cell 1 rfl
 have a2 := (HXA.out w2 HS2.out).cell 2 rfl
 have b0 := (HXB.out w2 HS2.out).cell 0 rfl
 have b1 := (HXB.out w2 HS2.out).cell 1 rfl
 have b2 := (HXB.out w2 HS2.out).cell 2 rfl
 clear hb2
 go_wp2_with fail
 clear a0 a1 a2 b0 b1 b2
 with_reducible refine (HPR.out w2 (HB0.out w2 HS2.out)).mono ?_
 rintro e w3 ⟨pv, sm, ok, rfl, hb3, hpr⟩
 have HS3 := hid (HS2.out.trans (hb3.mono HS2.out.size))
 clear hb3
 rcases hpr with ⟨rfl, hno⟩ | ⟨rfl, hpj, px, py, rfl, hpk⟩
 ·have HF := hid (HB0.out w3 HS3.out)
  go_wp2
  refine bodyPost_ret (v := .tuple #[.slice none 0 0, .bool false]) (by simp [results, Tryz.results33, go_sem]) rfl ?_
  exact ⟨none, 0, 0, false, rfl, HF.out, fun h => by cases h⟩
 ·have a0 := (HXA.out w3 HS3.out).cell 0 rfl
  have a1 := (HXA.out w3 HS3.out).cell 1 rfl
  have a2 := (HXA.out w3 HS3.out).cell 2 rfl
  have HPK := hid (InK.more hpk (S' := (· < w3.heap.size)) fun b hb => hb.2)
  have HPJ := hid hpj
  clear hpj hpk
  go_wp2_with fail
  clear a0 a1 a2
  with_reducible refine (HFI.out w3 (HB0.out w3 HS3.out)).mono ?_
  rintro e w4 ⟨fx, fy, rfl, hfs, hb4⟩
  have HS4 := hid (HS3.out.trans (hb4.mono HS3.out.size))
  have HFSf := hid (fun W (hW : Below w4.heap.size w4 W) => ((hfs.keep (w' := W) fun p hp => hW.cell (p := p) hp.2).more (fun b hb => Nat.lt_of_lt_of_le hb.2 hW.size) : RdPs W (· < W.heap.size) (.slice fx (filtersL xs).length fy) (filtersL xs)))
  have HPKf := hid (fun W (hW : Below w4.heap.size w4 W) => (InK.keep HPK.out (w' := W) fun p (hp : p.block < w3.heap.size) => (hb4.trans (hW.mono hb4.size)).cell (p := p) hp : RdKs W (· < w3.heap.size) (.slice px ys.length py) ((fromL xs ys).map fun (k : Nat) => (k : Int))))
  have hz43 := hb4.size
  rw [HBL.out] at HPKf ⊢
  have HB4 := hid (fun W (hW : Below w4.heap.size w4 W) => HB0.out W (HS4.out.trans (hW.mono HS4.out.size)))
  have HX4 := hid (fun W (hW : Below w4.heap.size w4 W) => HXA.out W (HS4.out.trans (hW.mono HS4.out.size)))
  have HY4 := hid (fun W (hW : Below w4.heap.size w4 W) => HXB.out W (HS4.out.trans (hW.mono HS4.out.size)))
  have HMEM := hid (fun q (hq : q < (filtersL xs).length) => getD_mem hq ([] : List Po))
  have HBARE := hid (fun f (hf : f ∈ filtersL xs) => filt_cols hf)
  have HSHORT := hid (fun f (hf : f ∈ filtersL xs) => filt_short hf)
  clear hb4 hfs HPK HS0 HS1 HS2 HS3 HS4 HB0 HXA HXB HPR HFI HVA HVB
  obtain ⟨FL, hfl⟩ : ∃ FL, FL = (filtersL xs).length := ⟨_, rfl⟩
  rw [← hfl] at HFSf HFLn HMEM
  rw [← hfl]
  have HFE := hid hfl.symm
  have hfl3 := HFLn.out
  clear hfl HFLn
  go_wp2_with fail
  subst hLA
  go_loopg [9, 10, 45] FL (fun N bv fd i wr => ∃ (q : Nat) (bx : Option Addr) (bn bc : Nat) (f : Bool), bv = .slice bx bn bc ∧ fd = .bool f ∧ i = .int .i64 (q : Int) ∧ q + N = FL ∧ bn ≤ 8 ∧ Hid (Below w4.heap.size w4 wr) ∧ Hid (f = true → ∃ l, findL xs ys = some l ∧ l.length ≤ bn))
  case atStart => exact ⟨0, none, 0, 0, false, rfl, rfl, rfl, by omega, by omega, hid (Below.refl _ _), hid (fun h => by cases h)⟩
  case round =>
   obtain ⟨q, bx, bn, bc, fd, rfl, rfl, rfl, hq, hbn, HG, HFD⟩ := hrel
   obtain ⟨wo, rfl⟩ : ∃ wo, wo = wr := ⟨wr, rfl⟩
   obtain ⟨go, rfl⟩ : ∃ go, go = gk := ⟨gk, rfl⟩
   have hwo := HG.out.size
   by_cases hp : 0 < go
   ·have hqF : q < FL := by omega
    have hqi : (q : Int) < (FL : Int) := by omega
    obtain ⟨fb, fo, fc', uf, e5, hfb, -, -, f0, hfp⟩ := ps_at (HFSf.out wo HG.out) (q := q) (by rw [HFE.out]; exact hqF)
    rw [HFE.out] at e5
    obtain ⟨rfl, -, rfl⟩ := Value.slice.inj e5
    have hmf := HMEM.out q hqF
    have HFP := hid (PoB.bare (B := w3.heap.size) hfp (HBARE.out _ hmf))
    have hfs1 := HSHORT.out _ hmf
    clear e5 hfb
    generalize (filtersL xs).getD q [] = f at *
    obtain ⟨fa, fcc, rfl⟩ := rdPo_len hfp
    obtain ⟨fl, hfl⟩ : ∃ fl, fl = f.length := ⟨_, rfl⟩
    rw [← hfl] at HFP hfs1 f0
    have HFLE := hid hfl.symm
    have HMF := hid hmf
    clear hfp hfl hmf
    go_upto_if 52 with (at_builtin; refine wpList_append_ops rfl _ _ rfl w3.heap.size wo.heap.size none 0 0 [] rfl (OpRow.start wo (by omega)) rfl fa fl fcc f rfl HFP.out HFLE.out (by omega) (Nat.le_refl _) fl (by omega) ?_; intro a5 c5 w5 hop5 hg5; have HOP5 := hid hop5; have HG5 := hid hg5; clear hop5 hg5)
    have HB5 := hid ((Below.refl wo.heap.size wo).grown HG5.out (Nat.le_refl _) (fun k hk => by cases hk))
    rw [List.nil_append] at HOP5
    have HG45 := hid (HG.out.trans (HB5.out.mono hwo))
    have hz5 := HB5.out.size
    clear HG5 HFP f0
    go_cut [13] from 53 to 136 (fun s13 wx => ∃ (p : List Po) (a' : Option Addr) (n' c' : Nat), s13 = .slice a' n' c' ∧ (f ++ p).length = n' ∧ n' ≤ 2 ∧ Hid (projOf xs ys = some p) ∧ Hid (OpRow wx w3.heap.size wo.heap.size (.slice a' n' c') (f ++ p)) ∧ Hid (Below wo.heap.size wo wx))
    case first =>
     cases sm with
     | true =>
      go_wp2_with fail
      go_meet
      exact ⟨[], a5, fl, c5, rfl, by rw [List.append_nil]; exact HFLE.out, by omega, hid (by rw [HPJ.out]; rfl), hid (by rw [List.append_nil]; exact HOP5.out), HB5⟩
     | false =>
      have HN6 := hid (BoxN.new w5 #[.int .i64 3, .int .i64 0, .string ⟨#[]⟩, .slice px Lb py] 122)
      have HB6 := hid (HB5.out.alloc hz5 (.cells #[.int .i64 3, .int .i64 0, .string ⟨#[]⟩, .slice px Lb py] 122))
      have HOP6 := hid (HOP5.out.later ((Below.refl w5.heap.size w5).alloc (Nat.le_refl _) (.cells #[.int .i64 3, .int .i64 0, .string ⟨#[]⟩, .slice px Lb py] 122)) hz5)
      have HPO6 := hid (PoB.one (o := opProj (fromL xs ys)) (B := w3.heap.size) HN6.out (HPKf.out _ (HG.out.trans (HB6.out.mono hwo))))
      go_wp2_with (at_builtin; refine wpList_append_ops rfl _ _ rfl w3.heap.size wo.heap.size a5 fl c5 f rfl HOP6.out HFLE.out (some ⟨_, 0, none⟩) 1 1 [opProj (fromL xs ys)] rfl HPO6.out rfl (by omega) (by simp; omega) (fl + 1) rfl ?_; intro a7 c7 w7 hop7 hg7; have HOP7 := hid hop7; have HG7 := hid hg7; clear hop7 hg7)
      go_meet
      exact ⟨[opProj (fromL xs ys)], a7, fl + 1, c7, rfl, by rw [List.length_append, HFLE.out]; rfl, by omega, hid (by rw [HPJ.out]; rfl), HOP7, hid (HB6.out.grown HG7.out (by simp; omega) (fun k hk => by obtain ⟨-, uv, h1, -⟩ := HOP6.out; exact (h1.lt k hk).1))⟩
    case rest =>
     obtain ⟨p, la, ln, lc, rfl, hln, hl2, HPP, HOL, HBC⟩ := hcut
     obtain ⟨hcr, hcl⟩ := HCB.out f p HMF.out HPP.out
     have HTXl := hid (HTX.out f p HMF.out HPP.out)
     have HFNl := hid (fun d s => HFN.out f p d s HMF.out HPP.out)
     have HCR := hid hcr
     have HCLN := hid hcl
     have HTTl := hid (fun i (hi : i ≤ (f ++ p).length) => HTT.out (f ++ p) i hcr hi)
     have HCAN := hid (fun i (hi : i < (f ++ p).length) => can_take (xs := xs) hcr hi)
     have HRTK := hid (fun i (hi : i < (f ++ p).length) => run_take (xs := xs) hi)
     clear hcr hcl HFLE HOP5 HB5 HG45 hz5
     have hwc := HBC.out.size
     generalize f ++ p = l at *
     have HLN := hid hln
     clear hln
     have HG4c := hid (HG.out.trans (HBC.out.mono hwo))
     obtain ⟨X1, hX1⟩ : ∃ X, X = wc.alloc (.cells #[.int .i64 ia, .string na, .slice ua La uc] 51) := ⟨_, rfl⟩
     have hbx := BoxN.new wc #[.int .i64 ia, .string na, .slice ua La uc] 51
     have hsx := (Below.refl wc.heap.size wc).alloc (Nat.le_refl _) (.cells #[.int .i64 ia, .string na, .slice ua La uc] 51)
     rw [← hX1] at hbx hsx
     have HT0 := hid hbx
     have HSX := hid hsx
     have hx1 := hsx.size
     have hx1l := hbx.lt
     have HG4x := hid (HG4c.out.trans (hsx.mono HG4c.out.size))
     have HLf := hid (fun W (hW : Below wc.heap.size wc W) => HOL.out.src.later hW (by omega))
     have HU1 := hid (HUf.out X1 (HB4.out X1 HG4x.out))
     have a0 := (HX4.out wc HG4c.out).cell 0 rfl
     have a1 := (HX4.out wc HG4c.out).cell 1 rfl
     have a2 := (HX4.out wc HG4c.out).cell 2 rfl
     clear hbx hsx
     generalize hLB : Code.loop _ = LB
     go_wp2_with fail
     rw [← hX1]
     subst hLB
     clear hX1 a0 a1 a2
     go_loopg [61] ln (fun N i wr => ∃ (q2 : Nat) (ta : Option Addr) (tn tc : Nat), i = .int .i64 (q2 : Int) ∧ q2 + N = ln ∧ Hid (Below wc.heap.size wc wr) ∧ Hid (BoxN wr wc.heap.size 51 #[.int .i64 ia, .string na, .slice ta tn tc]) ∧ Hid (RdCo wr (· < wr.heap.size) (.slice ta tn tc) (runL xs (l.take q2))))
     case atStart => exact ⟨0, ua, La, uc, rfl, by omega, HSX, HT0, HU1⟩
     case round =>
      obtain ⟨q2, ta, tn, tc, rfl, hq2, HG2, HT2, HR2⟩ := hrel
      by_cases hp2 : 0 < gk
      ·have hq2l : q2 < ln := by omega
       have hqi2 : (q2 : Int) < (ln : Int) := by omega
       have hg2 := HG2.out.size
       have HG4w := hid (HG4c.out.trans (HG2.out.mono HG4c.out.size))
       have hg4w := HG4w.out.size
       obtain ⟨b6, o6, c6, kx, kn, ky, e6, hb6, hk6, k0, k1, k2, k3⟩ := pob_at (HLf.out wr HG2.out) (q := q2) (by rw [HLN.out]; exact hq2l)
       rw [HLN.out] at e6
       obtain ⟨rfl, -, rfl⟩ := Value.slice.inj e6
       have hcan := HCAN.out q2 (by rw [HLN.out]; exact hq2l)
       have HRT := hid (HRTK.out q2 (by rw [HLN.out]; exact hq2l))
       have htx := HTXl.out _ (getD_mem (show q2 < l.length by rw [HLN.out]; exact hq2l) Po.z)
       have htt := HTTl.out q2 (by rw [HLN.out]; omega)
       have HDOq := hid (fun W (hW : Below wr.heap.size wr W) => HDO.out (runL xs (l.take q2)) (l.getD q2 Po.z) (.slice ta tn tc) (.slice kx kn ky) W (HB4.out W (HG4w.out.trans (hW.mono hg4w))) (rdCo_nxF HR2.out hW) (InK.more (InK.keep hk6 fun p (hp : p.block < w3.heap.size) => hW.cell (p := p) (by omega)) fun b (hb : b < w3.heap.size) => by have := hW.size; show b < W.heap.size; omega) htt hcan htx)
       unfold Po.val at HDOq
       have HNEM : Hid (runL xs (l.take (q2 + 1)) ≠ [] → runL xs (l.take q2) ≠ []) := hid (fun h1 h2 => h1 (by rw [HRT.out]; exact do_none hcan h2))
       clear e6 hb6 hk6 hcan htx htt
       generalize l.getD q2 Po.z = o at *
       obtain ⟨ok, oc, ot, ocs⟩ := o
       simp only at k0 k1 k2 k3 HDOq
       have hbo := BoxN.new wr #[.int .i64 ok, .int .i64 oc, .string ot, .slice kx kn ky] 122
       have hso := (Below.refl wr.heap.size wr).alloc (Nat.le_refl _) (.cells #[.int .i64 ok, .int .i64 oc, .string ot, .slice kx kn ky] 122)
       obtain ⟨X2, hX2⟩ : ∃ X, X = wr.alloc (.cells #[.int .i64 ok, .int .i64 oc, .string ot, .slice kx kn ky] 122) := ⟨_, rfl⟩
       rw [← hX2] at hbo hso
       have HSO := hid hso
       have HT3 := hid (HT2.out.below hso HT2.out.lt)
       have t0 := HT3.out.cell 0 rfl
       have t1 := HT3.out.cell 1 rfl
       have t2 := HT3.out.cell 2 rfl
       have s0 := hbo.cell 0 rfl
       have s1 := hbo.cell 1 rfl
       have s2 := hbo.cell 2 rfl
       have s3 := hbo.cell 3 rfl
       rw [hX2] at t0 t1 t2 s0 s1 s2 s3
       clear hbo hso
       go_wp2_with fail
       rw [← hX2]
       clear hX2 t0 t1 t2 s0 s1 s2 s3 k0 k1 k2 k3
       with_reducible refine (HDOq.out X2 HSO.out).mono ?_
       rintro e w7 ⟨v7, rfl, hco7, hb7⟩
       have hz7 := hb7.size
       have hzo := HSO.out.size
       rw [← HRT.out] at hco7
       have HCO7 := hid (hco7.more (S' := (· < w7.heap.size)) fun b hb => by
        rcases hb with h | h
        ·show b < w7.heap.size; omega
        ·exact h.2)
       obtain ⟨a7, c7, rfl⟩ := rdCo_len hco7
       have HT7 := hid (HT3.out.below hb7 HT3.out.lt)
       have HPV7 := hid (rdCo_nxF (rdCo_nxF HR2.out HSO.out) hb7)
       have HB7 := hid (HG2.out.trans ((HSO.out.trans (hb7.mono hzo)).mono hg2))
       have t0 := HT7.out.cell 0 rfl
       have t1 := HT7.out.cell 1 rfl
       have t2 := HT7.out.cell 2 rfl
       have f0 := HT7.out.frozen 0
       have f1 := HT7.out.frozen 1
       have f2 := HT7.out.frozen 2
       clear hco7 hb7 HDOq HT3 HT2 HR2
       go_wp2_with fail
       go_roundg (gk - 1)
       case rel => exact ⟨q2 + 1, a7, _, c7, by go_num, by omega, hid (((HB7.out.setCell (p := ⟨wc.heap.size, 0, none⟩) (Nat.le_refl _) _).setCell (p := ⟨wc.heap.size, 1, none⟩) (Nat.le_refl _) _).setCell (p := ⟨wc.heap.size, 2, none⟩) (Nat.le_refl _) _), hid (((HT7.out.set 0 _).set 1 _).set 2 _), hid ((box_store HT7.out HCO7.out HPV7.out HNEM.out _).more fun b hb => by simpa using hb)⟩
       case measure => omega
      ·obtain rfl : gk = 0 := by omega
       obtain rfl : q2 = ln := by omega
       have HR2' := hid (by have h := HR2.out; rw [← HLN.out, List.take_length] at h; exact h : RdCo wr (· < wr.heap.size) (.slice ta tn tc) (runL xs l))
       have HTV0 := hid (by have h := HTTl.out l.length (Nat.le_refl _); rw [List.take_length] at h; exact h : TabV ⟨ia, na, runL xs l⟩)
       have htn : tn = Lb := by
        obtain ⟨a9, c9, e9⟩ := rdCo_len HR2'.out
        obtain ⟨-, e8, -⟩ := Value.slice.inj e9
        rw [e8]
        exact HCLN.out
       subst htn
       obtain ⟨Y1, rfl⟩ : ∃ W, W = wr := ⟨wr, rfl⟩
       clear HR2 HTTl HCAN HRTK HTXl HOL HU1 HT0 HSX
       generalize runL xs l = T0 at *
       have hy1 := HG2.out.size
       have hT2l := HT2.out.lt
       have HG4y := hid (HG4c.out.trans (HG2.out.mono HG4c.out.size))
       obtain ⟨X3, hX3⟩ : ∃ X, X = (Y1.alloc (.cells #[.int .i64 4, .int .i64 0, .string ⟨#[]⟩, .slice none 0 0] 122)).alloc (.cells #[.slice none 0 0, .slice (some ⟨Y1.heap.size, 0, none⟩) 1 1] 74) := ⟨_, rfl⟩
       have hd0 := (BoxN.new Y1 #[.int .i64 4, .int .i64 0, .string ⟨#[]⟩, .slice none 0 0] 122).alloc (.cells #[.slice none 0 0, .slice (some ⟨Y1.heap.size, 0, none⟩) 1 1] 74)
       have hd1 := BoxN.new (Y1.alloc (.cells #[.int .i64 4, .int .i64 0, .string ⟨#[]⟩, .slice none 0 0] 122)) #[.slice none 0 0, .slice (some ⟨Y1.heap.size, 0, none⟩) 1 1] 74
       have hs3 := ((Below.refl Y1.heap.size Y1).alloc (Nat.le_refl _) (.cells #[.int .i64 4, .int .i64 0, .string ⟨#[]⟩, .slice none 0 0] 122)).alloc (by simp) (.cells #[.slice none 0 0, .slice (some ⟨Y1.heap.size, 0, none⟩) 1 1] 74)
       rw [← hX3] at hd0 hd1 hs3
       rw [World.size_alloc] at hd1
       have HD0 := hid (fun W (hW : Below X3.heap.size X3 W) => hd0.below hW hd0.lt)
       have HD1 := hid (fun W (hW : Below X3.heap.size X3 W) => hd1.below hW hd1.lt)
       have HS3 := hid hs3
       have hx3 := hs3.size
       have HT3 := hid (HT2.out.below hs3 HT2.out.lt)
       have HR3 := hid (rdCo_nxF HR2'.out hs3)
       have HGc3 := hid (HG2.out.trans (hs3.mono hy1))
       clear hd0 hd1 hs3
       generalize hLC : Code.loop _ = LC
       go_wp2_with fail
       rw [← hX3]
       subst hLC
       clear hX3
       go_loopg [9, 10, 73] 2 (fun N bv fd i wr => ∃ (q3 : Nat) (bx : Option Addr) (bn bc : Nat) (f : Bool), bv = .slice bx bn bc ∧ fd = .bool f ∧ i = .int .i64 (q3 : Int) ∧ q3 + N = 2 ∧ bn ≤ 8 ∧ Hid (Below X3.heap.size X3 wr) ∧ Hid (f = true → ∃ l, findL xs ys = some l ∧ l.length ≤ bn))
       case atStart => exact ⟨0, bx, bn, bc, fd, rfl, rfl, rfl, by omega, hbn, hid (Below.refl _ _), HFD⟩
       case round =>
        clear HFD hbn
        obtain ⟨q3, bx, bn, bc, fd, rfl, rfl, rfl, hq3, hbn, HG3, HFD⟩ := hrel
        obtain ⟨w3o, rfl⟩ : ∃ W, W = wr := ⟨wr, rfl⟩
        obtain ⟨g3, rfl⟩ : ∃ go, go = gk := ⟨gk, rfl⟩
        have hw3o := HG3.out.size
        have HGc3o := hid (HGc3.out.trans (HG3.out.mono HGc3.out.size))
        have HG4o := hid (HG4c.out.trans (HGc3o.out.mono HG4c.out.size))
        by_cases hp3 : 0 < g3
        ·have hq3i : (q3 : Int) < 2 := by omega
         have hdsel : ∃ (da : Option Addr) (d : List Po), d.length = q3 ∧ (d = [] ∨ d = [opDist]) ∧ Hid (∀ W, Below X3.heap.size X3 W → PoB W w3.heap.size (.slice da q3 q3) d) ∧ w3o.cell? ⟨Y1.heap.size + 1, q3, none⟩ = some (.slice da q3 q3) := by
          rcases (show q3 = 0 ∨ q3 = 1 by omega) with rfl | rfl
          ·exact ⟨none, [], rfl, .inl rfl, hid (fun W _ => PoB.nil _ _), (HD1.out w3o HG3.out).cell 0 rfl⟩
          ·exact ⟨some ⟨Y1.heap.size, 0, none⟩, [opDist], rfl, .inr rfl, hid (fun W hW => PoB.one (o := opDist) (HD0.out W hW) InK.nil), (HD1.out w3o HG3.out).cell 1 rfl⟩
         obtain ⟨da, d, hdl, hdd, HPD, kd⟩ := hdsel
         have hcrd : canRun T0 d = true := by
          rcases hdd with rfl | rfl
          ·rfl
          ·simp [canRun, can_dist]
         have HDD := hid hdd
         have HTTD := hid (fun i (hi : i ≤ d.length) => tab_take (os := d) (i := i) HTV0.out hcrd hi)
         have HCAND := hid (fun i (hi : i < d.length) => can_take (xs := T0) hcrd hi)
         have HRTKD := hid (fun i (hi : i < d.length) => run_take (xs := T0) hi)
         have HTXD : Hid (∀ o ∈ d, o.text.size ≤ 1048576) := hid (fun o ho => by
          rcases HDD.out with rfl | rfl
          ·cases ho
          ·rw [List.mem_singleton.1 ho]; show (⟨#[]⟩ : ByteArray).size ≤ _; decide)
         have HDL := hid hdl
         clear hcrd hdd hdl
         obtain ⟨X4, hX4⟩ : ∃ X, X = w3o.alloc (.cells #[.int .i64 ia, .string na, .slice ta tn tc] 51) := ⟨_, rfl⟩
         have hbx := BoxN.new w3o #[.int .i64 ia, .string na, .slice ta tn tc] 51
         have hsx := (Below.refl w3o.heap.size w3o).alloc (Nat.le_refl _) (.cells #[.int .i64 ia, .string na, .slice ta tn tc] 51)
         rw [← hX4] at hbx hsx
         have HT4 := hid hbx
         have HSX4 := hid hsx
         have HU4 := hid (rdCo_nxF (rdCo_nxF HR3.out HG3.out) hsx)
         have HT3o := hid (HT3.out.below HG3.out HT3.out.lt)
         have t0 := HT3o.out.cell 0 rfl
         have t1 := HT3o.out.cell 1 rfl
         have t2 := HT3o.out.cell 2 rfl
         clear hbx hsx
         generalize hLD : Code.loop _ = LD
         go_wp2_with fail
         rw [← hX4]
         subst hLD
         clear hX4 t0 t1 t2 kd
         go_loopg [80] q3 (fun N i wr => ∃ (q4 : Nat) (ta : Option Addr) (tn tc : Nat), i = .int .i64 (q4 : Int) ∧ q4 + N = q3 ∧ Hid (Below w3o.heap.size w3o wr) ∧ Hid (BoxN wr w3o.heap.size 51 #[.int .i64 ia, .string na, .slice ta tn tc]) ∧ Hid (RdCo wr (· < wr.heap.size) (.slice ta tn tc) (runL T0 (d.take q4))))
         case atStart => exact ⟨0, ta, tn, tc, rfl, by omega, HSX4, HT4, HU4⟩
         case round =>
          obtain ⟨q4, ta, un, tc, rfl, hq4, HG2, HT2, HR2⟩ := hrel
          by_cases hp4 : 0 < gk
          ·have hq4l : q4 < q3 := by omega
           have hqi4 : (q4 : Int) < (q3 : Int) := by omega
           have hg2 := HG2.out.size
           have HG4w := hid (HG4o.out.trans (HG2.out.mono HG4o.out.size))
           have hg4w := HG4w.out.size
           obtain ⟨b6, o6, c6, kx, kn, ky, e6, hb6, hk6, k0, k1, k2, k3⟩ := pob_at (HPD.out wr (HG3.out.trans (HG2.out.mono hw3o))) (q := q4) (by rw [HDL.out]; exact hq4l)
           rw [HDL.out] at e6
           obtain ⟨rfl, -, rfl⟩ := Value.slice.inj e6
           have hcan := HCAND.out q4 (by rw [HDL.out]; exact hq4l)
           have HRT := hid (HRTKD.out q4 (by rw [HDL.out]; exact hq4l))
           have htx := HTXD.out _ (getD_mem (show q4 < d.length by rw [HDL.out]; exact hq4l) Po.z)
           have htt := HTTD.out q4 (by rw [HDL.out]; omega)
           have HDOq := hid (fun W (hW : Below wr.heap.size wr W) => HDO.out (runL T0 (d.take q4)) (d.getD q4 Po.z) (.slice ta un tc) (.slice kx kn ky) W (HB4.out W (HG4w.out.trans (hW.mono hg4w))) (rdCo_nxF HR2.out hW) (InK.more (InK.keep hk6 fun p (hp : p.block < w3.heap.size) => hW.cell (p := p) (by omega)) fun b (hb : b < w3.heap.size) => by have := hW.size; show b < W.heap.size; omega) htt hcan htx)
           unfold Po.val at HDOq
           have HNEM : Hid (runL T0 (d.take (q4 + 1)) ≠ [] → runL T0 (d.take q4) ≠ []) := hid (fun h1 h2 => h1 (by rw [HRT.out]; exact do_none hcan h2))
           clear e6 hb6 hk6 hcan htx htt
           generalize d.getD q4 Po.z = o at *
           obtain ⟨ok, oc, ot, ocs⟩ := o
           simp only at k0 k1 k2 k3 HDOq
           have hbo := BoxN.new wr #[.int .i64 ok, .int .i64 oc, .string ot, .slice kx kn ky] 122
           have hso := (Below.refl wr.heap.size wr).alloc (Nat.le_refl _) (.cells #[.int .i64 ok, .int .i64 oc, .string ot, .slice kx kn ky] 122)
           obtain ⟨X2, hX2⟩ : ∃ X, X = wr.alloc (.cells #[.int .i64 ok, .int .i64 oc, .string ot, .slice kx kn ky] 122) := ⟨_, rfl⟩
           rw [← hX2] at hbo hso
           have HSO := hid hso
           have HT3 := hid (HT2.out.below hso HT2.out.lt)
           have t0 := HT3.out.cell 0 rfl
           have t1 := HT3.out.cell 1 rfl
           have t2 := HT3.out.cell 2 rfl
           have s0 := hbo.cell 0 rfl
           have s1 := hbo.cell 1 rfl
           have s2 := hbo.cell 2 rfl
           have s3 := hbo.cell 3 rfl
           rw [hX2] at t0 t1 t2 s0 s1 s2 s3
           clear hbo hso
           go_wp2_with fail
           rw [← hX2]
           clear hX2 t0 t1 t2 s0 s1 s2 s3 k0 k1 k2 k3
           with_reducible refine (HDOq.out X2 HSO.out).mono ?_
           rintro e w7 ⟨v7, rfl, hco7, hb7⟩
           have hz7 := hb7.size
           have hzo := HSO.out.size
           rw [← HRT.out] at hco7
           have HCO7 := hid (hco7.more (S' := (· < w7.heap.size)) fun b hb => by
            rcases hb with h | h
            ·show b < w7.heap.size; omega
            ·exact h.2)
           obtain ⟨a7, c7, rfl⟩ := rdCo_len hco7
           have HT7 := hid (HT3.out.below hb7 HT3.out.lt)
           have HPV7 := hid (rdCo_nxF (rdCo_nxF HR2.out HSO.out) hb7)
           have HB7 := hid (HG2.out.trans ((HSO.out.trans (hb7.mono hzo)).mono hg2))
           have t0 := HT7.out.cell 0 rfl
           have t1 := HT7.out.cell 1 rfl
           have t2 := HT7.out.cell 2 rfl
           have f0 := HT7.out.frozen 0
           have f1 := HT7.out.frozen 1
           have f2 := HT7.out.frozen 2
           clear hco7 hb7 HDOq HT3 HT2 HR2
           go_wp2_with fail
           go_roundg (gk - 1)
           case rel => exact ⟨q4 + 1, a7, _, c7, by go_num, by omega, hid (((HB7.out.setCell (p := ⟨w3o.heap.size, 0, none⟩) (Nat.le_refl _) _).setCell (p := ⟨w3o.heap.size, 1, none⟩) (Nat.le_refl _) _).setCell (p := ⟨w3o.heap.size, 2, none⟩) (Nat.le_refl _) _), hid (((HT7.out.set 0 _).set 1 _).set 2 _), hid ((box_store HT7.out HCO7.out HPV7.out HNEM.out _).more fun b hb => by simpa using hb)⟩
           case measure => omega
          ·obtain rfl : gk = 0 := by omega
           obtain rfl : q4 = q3 := by omega
           have HR4 := hid (by have h := HR2.out; rw [← HDL.out, List.take_length] at h; exact h : RdCo wr (· < wr.heap.size) (.slice ta un tc) (runL T0 d))
           have HTV4 := hid (by have h := HTTD.out d.length (Nat.le_refl _); rw [List.take_length] at h; exact h : TabV ⟨ia, na, runL T0 d⟩)
           have HULN : Hid ((runL T0 d).length = tn) := hid (by
            rcases HDD.out with h | h
            ·rw [h]; exact HCLN.out
            ·rw [h, dist_len]; exact HCLN.out)
           have htn : un = tn := by
            obtain ⟨a9, c9, e9⟩ := rdCo_len HR4.out
            obtain ⟨-, e8, -⟩ := Value.slice.inj e9
            rw [e8]
            exact HULN.out
           obtain rfl : tn = un := htn.symm
           obtain ⟨Y4, rfl⟩ : ∃ W, W = wr := ⟨wr, rfl⟩
           have HG34 := hid (HG3.out.trans (HG2.out.mono hw3o))
           have hT2l := HT2.out.lt
           have HG44 := hid (HG4o.out.trans (HG2.out.mono HG4o.out.size))
           have hy4 := HG2.out.size
           clear HR2 HTTD HCAND HRTKD HTXD HT4 HSX4 HU4 HT3o
           have HFN4 := hid (fun s hs hr hn => HFNl.out d s HDD.out hs hr hn)
           generalize runL T0 d = U at *
           have s0 := fun p : LaterOf Y4 => p.cell (HT2.out.cell 0 rfl)
           have s1 := fun p : LaterOf Y4 => p.cell (HT2.out.cell 1 rfl)
           have s2 := fun p : LaterOf Y4 => p.cell (HT2.out.cell 2 rfl)
           have t0 := fun p : LaterOf Y4 => p.cell ((HY4.out Y4 HG44.out).cell 0 rfl)
           have t1 := fun p : LaterOf Y4 => p.cell ((HY4.out Y4 HG44.out).cell 1 rfl)
           have t2 := fun p : LaterOf Y4 => p.cell ((HY4.out Y4 HG44.out).cell 2 rfl)
           have HC1 := hid (fun p : LaterOf Y4 => later_call p (HRW.out ia na (.slice ta tn tc) U p.W (rdCo_nxF HR4.out p.hb)))
           have HC2 := hid (fun p : LaterOf Y4 => later_call p (HRW.out ib nb (.slice va tn vc) ys p.W (rdCo_nxF (HVf.out Y4 (HB4.out Y4 HG44.out)) p.hb)))
           go_upto_region 29 with fail
           have hrr : ((rowsC U : Int) == (rowsC ys : Int)) = decide (rowsC U = rowsC ys) := by
            by_cases h : rowsC U = rowsC ys
            ·rw [h]; simp
            ·rw [decide_eq_false h]; exact beq_false_of_ne (by omega)
           by_cases hre : rowsC U = rowsC ys
           ·have hrI : (rowsC U : Int) = (rowsC ys : Int) := by rw [hre]
            have HFN5 := hid (fun s hs hr => HFN4.out s hs hr hre)
            clear HFN4 hrr hre
            generalize rowsC U = ru at *
            obtain rfl : ru = rowsC ys := by omega
            generalize rowsC ys = rb at *
            clear hrI
            refine wp_region_later (by kernel_rfl) (by kernel_rfl) ?_
            repeat (first | go_big_quiet_step ((first | (go_at_call 31; with_reducible exact HC1.out _) | (go_at_call 31; with_reducible exact HC2.out _))) | quiet_step ((first | (go_at_call 31; with_reducible exact HC1.out _) | (go_at_call 31; with_reducible exact HC2.out _))))
            refine wpQuiet_nil ?_
            intro _ hw'
            obtain ⟨p5, hw''⟩ := hw'
            subst hw''
            have hb8 := p5.hb
            generalize p5.W = w8 at *
            have hz8 := hb8.size
            have HF3 := hid (HG34.out.trans (hb8.mono HG34.out.size))
            have HF4 := hid (HG44.out.trans (hb8.mono HG44.out.size))
            have HT8 := hid (HT2.out.below hb8 HT2.out.lt)
            have HR8 := hid (rdCo_nxF HR4.out hb8)
            have HFc8 := hid (HGc3o.out.trans ((HG2.out.trans (hb8.mono hy4)).mono HGc3o.out.size))
            have hf4 := HF4.out.size
            have hf3 := HF3.out.size
            have hfc := HFc8.out.size
            have hT8l := HT8.out.lt
            clear hb8 p5 s0 s1 s2 t0 t1 t2 HC1 HC2 HR4 HT2 HG34 HG44
            go_wp2_with fail
            go_loopg [9, 10, 22] (tn + 1) (fun N bv fd i wr => ∃ (q5 : Nat) (bx : Option Addr) (bn bc : Nat) (f : Bool), bv = .slice bx bn bc ∧ fd = .bool f ∧ i = .int .i64 ((q5 : Int) - 1) ∧ q5 + N = tn + 1 ∧ bn ≤ 8 ∧ Hid (Below w8.heap.size w8 wr) ∧ Hid (f = true → ∃ l, findL xs ys = some l ∧ l.length ≤ bn))
            case atStart => exact ⟨0, bx, bn, bc, fd, rfl, rfl, rfl, by omega, hbn, hid (Below.refl _ _), HFD⟩
            case round =>
             clear HFD hbn
             obtain ⟨q5, bx, bn, bc, fd, rfl, rfl, rfl, hq5, hbn, HG5, HFD⟩ := hrel
             obtain ⟨w5o, rfl⟩ : ∃ W, W = wr := ⟨wr, rfl⟩
             obtain ⟨g5, rfl⟩ : ∃ go, go = gk := ⟨gk, rfl⟩
             have hw5o := HG5.out.size
             have HT5 := hid (HT8.out.below HG5.out hT8l)
             have t0 := HT5.out.cell 0 rfl
             have t1 := HT5.out.cell 1 rfl
             have t2 := HT5.out.cell 2 rfl
             by_cases hp5 : 0 < g5
             ·have hk5 : (q5 : Int) - 1 < (tn : Int) := by omega
              obtain ⟨kI, hkI⟩ : ∃ kI, kI = (q5 : Int) - 1 := ⟨_, rfl⟩
              rw [← hkI] at hk5
              rw [← hkI]
              have HKI := hid hkI
              have hkl : -1 ≤ kI := by omega
              clear hkI
              obtain ⟨X5, hX5⟩ : ∃ X, X = w5o.alloc (.cells #[.int .i64 ia, .string na, .slice ta tn tc] 51) := ⟨_, rfl⟩
              have hbx := BoxN.new w5o #[.int .i64 ia, .string na, .slice ta tn tc] 51
              have hsx := (Below.refl w5o.heap.size w5o).alloc (Nat.le_refl _) (.cells #[.int .i64 ia, .string na, .slice ta tn tc] 51)
              rw [← hX5] at hbx hsx
              have HT6 := hid hbx
              have HSX5 := hid hsx
              have hx5 := hsx.size
              have hx5l := hbx.lt
              have HR5 := hid (rdCo_nxF (rdCo_nxF HR8.out HG5.out) hsx)
              have HFc5 := hid (HFc8.out.trans ((HG5.out.trans (hsx.mono hw5o)).mono hfc))
              have HF35 := hid (HF3.out.trans ((HG5.out.trans (hsx.mono hw5o)).mono hf3))
              have HPL5 := hid (HLf.out X5 HFc5.out)
              have hw3x : w3.heap.size ≤ X5.heap.size := by omega
              clear hbx hsx
              go_upto_region 34 with fail
              rw [← hX5]
              clear hX5 t0 t1 t2
              go_upto_if 106 with (first
               | (at_builtin; refine wpList_append_ops rfl _ _ rfl w3.heap.size X5.heap.size none 0 0 [] rfl (OpRow.start X5 hw3x) rfl la q2 lc l rfl HPL5.out HLN.out (by omega) (Nat.le_refl _) q2 (by omega) ?_; intro a9 c9 w9 hop9 hg9; have HOP9 := hid hop9; have HB9 := hid ((Below.refl X5.heap.size X5).grown hg9 (Nat.le_refl _) (fun k hk => by cases hk)); clear hop9 hg9)
               | (at_builtin; refine wpList_append_ops rfl _ _ rfl w3.heap.size X5.heap.size a9 q2 c9 ([] ++ l) rfl HOP9.out HLN.out da q4 q4 d rfl (HPD.out w9 (HF35.out.trans (HB9.out.mono HF35.out.size))) HDL.out (by omega) HB9.out.size (q2 + q4) rfl ?_; intro a10 c10 w10 hop10 hg10; have HOP10 := hid hop10; have HB10 := hid (HB9.out.grown hg10 HB9.out.size (fun k hk => by obtain ⟨-, uv, h1, -⟩ := HOP9.out; exact (h1.lt k hk).1)); clear hop10 hg10))
              clear HOP9 HPL5
              have hop10e : [] ++ l ++ d = l ++ d := rfl
              rw [hop10e] at HOP10
              clear hop10e
              have HLDL : Hid ((l ++ d).length = q2 + q4) := hid (by rw [List.length_append, HLN.out, HDL.out])
              have HT10 := hid (HT6.out.below HB10.out hx5l)
              have HT19 := hid (HT8.out.below (HG5.out.trans ((HSX5.out.trans (HB10.out.mono hx5)).mono hw5o)) hT8l)
              have HR10 := hid (rdCo_nxF HR5.out HB10.out)
              have HW10 := hid (HSX5.out.trans (HB10.out.mono hx5))
              have hw10 := HW10.out.size
              generalize l ++ d = ld at *
              go_cut [24] from 93 to 134 (fun s24 wx => ∃ (s : List Po) (xa : Option Addr) (xn xc : Nat) (va : Option Addr) (vn vc' : Nat), s24 = .slice xa xn xc ∧ xn = q2 + q4 + s.length ∧ s.length ≤ 1 ∧ Hid (s = [] ∨ ∃ k, k < tn ∧ s = [opSort k]) ∧ Hid (Below w5o.heap.size w5o wx) ∧ Hid (BoxN wx w5o.heap.size 51 #[.int .i64 ia, .string na, .slice va vn vc']) ∧ Hid (RdCo wx (· < wx.heap.size) (.slice va vn vc') (runL U s)))
              case first =>
               by_cases hk0 : 0 ≤ kI
               ·obtain ⟨r, rfl⟩ : ∃ r : Nat, kI = (r : Int) := ⟨kI.toNat, by omega⟩
                have hrt : r < tn := by omega
                have hkd : decide ((0 : Int) ≤ (r : Int)) = true := decide_eq_true hk0
                have HN11 := hid (BoxN.new w10 #[.int .i64 5, .int .i64 (r : Int), .string ⟨#[]⟩, .slice none 0 0] 122)
                have HS11 := hid ((Below.refl w10.heap.size w10).alloc (Nat.le_refl _) (.cells #[.int .i64 5, .int .i64 (r : Int), .string ⟨#[]⟩, .slice none 0 0] 122))
                have HOP11 := hid (HOP10.out.later HS11.out (by have := HB10.out.size; omega))
                have HPO11 := hid (PoB.one (o := opSort r) (B := w3.heap.size) HN11.out InK.nil)
                have hb10s := HB10.out.size
                obtain ⟨m, hm⟩ : ∃ m, m = q2 + q4 := ⟨_, rfl⟩
                rw [← hm] at HOP10 HOP11 HLDL
                have hm4 : m ≤ 8 := by omega
                rw [← hm]
                have HM := hid hm
                clear hm
                go_upto_region 37 with (at_builtin; refine wpList_append_ops rfl _ _ rfl w3.heap.size X5.heap.size a10 m c10 ld rfl HOP11.out HLDL.out (some ⟨_, 0, none⟩) 1 1 [opSort r] rfl HPO11.out rfl (by omega) (by simp; omega) (m + 1) rfl ?_; intro a12 c12 w12 hop12 hg12; have HOP12 := hid hop12; have HB12 := hid ((HB10.out.alloc hb10s (.cells #[.int .i64 5, .int .i64 (r : Int), .string ⟨#[]⟩, .slice none 0 0] 122)).grown hg12 (by simp; omega) (fun k hk => by (obtain ⟨-, uv, h1, -⟩ := HOP11.out); exact (h1.lt k hk).1)); clear hop12 hg12)
                have hget : (ld ++ [opSort r]).getD m Po.z = opSort r := by simp [List.getD, ← HLDL.out]
                obtain ⟨b7, o7, c7', kx, kn, ky, e7, hb7, hk7, k0, k1, k2, k3⟩ := pob_at HOP12.out.src (q := m) (by rw [List.length_append, HLDL.out]; simp)
                obtain ⟨uv7, hown7, -⟩ := HOP12.out.2
                have hb7o : X5.heap.size ≤ b7 := by
                 have h1 := hown7.lt b7 (by rw [e7]; rfl)
                 exact h1.1
                obtain ⟨e8, -, -⟩ := Value.slice.inj e7
                subst e8
                rw [hget] at hk7 k0 k1 k2
                have hz12 := HB12.out.size
                have HT12 := hid (HT8.out.below (HG5.out.trans ((HSX5.out.trans (HB12.out.mono hx5)).mono hw5o)) hT8l)
                have HV12 := hid (HT6.out.below HB12.out hx5l)
                have HR12 := hid (rdCo_nxF HR5.out HB12.out)
                have HB4w := hid (fun W (hW : Below w12.heap.size w12 W) => HB4.out W (HG4c.out.trans ((HFc5.out.trans ((HB12.out.trans (hW.mono hz12)).mono HFc5.out.size)).mono HG4c.out.size)))
                have HDO37 := hid (fun W (hW : Below w12.heap.size w12 W) => HDO.out U (opSort r) (.slice ta tn tc) (.slice kx kn ky) W (HB4w.out W hW) (rdCo_nxF HR12.out hW) (InK.more (InK.keep hk7 fun p (hp : p.block < w3.heap.size) => hW.cell (p := p) (by omega)) fun b (hb : b < w3.heap.size) => by have := hW.size; show b < W.heap.size; omega) HTV4.out (by rw [HULN.out]; exact can_sort hrt) (by show (⟨#[]⟩ : ByteArray).size ≤ _; decide))
                unfold Po.val at HDO37
                simp only [opSort] at HDO37 k0 k1 k2
                have HSK := hid (fun W (hW : Below w12.heap.size w12 W) => (⟨(HT12.out.below hW HT12.out.lt).cell 0 rfl, (HT12.out.below hW HT12.out.lt).cell 1 rfl, (HT12.out.below hW HT12.out.lt).cell 2 rfl, (hW.cell (p := ⟨b7, o7 + m * 4, none⟩) hb7).trans k0, (hW.cell (p := ⟨b7, o7 + m * 4 + 1, none⟩) hb7).trans k1, (hW.cell (p := ⟨b7, o7 + m * 4 + 2, none⟩) hb7).trans k2, (hW.cell (p := ⟨b7, o7 + m * 4 + 3, none⟩) hb7).trans k3⟩ : ((fun W => W.cell? ⟨w3o.heap.size, 0, none⟩ = some (.int .i64 ia) ∧ W.cell? ⟨w3o.heap.size, 1, none⟩ = some (.string na) ∧ W.cell? ⟨w3o.heap.size, 2, none⟩ = some (.slice ta tn tc) ∧ W.cell? ⟨b7, o7 + m * 4, none⟩ = some (.int .i64 5) ∧ W.cell? ⟨b7, o7 + m * 4 + 1, none⟩ = some (.int .i64 (r : Int)) ∧ W.cell? ⟨b7, o7 + m * 4 + 2, none⟩ = some (.string ⟨#[]⟩) ∧ W.cell? ⟨b7, o7 + m * 4 + 3, none⟩ = some (.slice kx kn ky))) W))
                have hSst := fun (W : World) (u0 u1 u2 : Value) (h : ((fun W => W.cell? ⟨w3o.heap.size, 0, none⟩ = some (.int .i64 ia) ∧ W.cell? ⟨w3o.heap.size, 1, none⟩ = some (.string na) ∧ W.cell? ⟨w3o.heap.size, 2, none⟩ = some (.slice ta tn tc) ∧ W.cell? ⟨b7, o7 + m * 4, none⟩ = some (.int .i64 5) ∧ W.cell? ⟨b7, o7 + m * 4 + 1, none⟩ = some (.int .i64 (r : Int)) ∧ W.cell? ⟨b7, o7 + m * 4 + 2, none⟩ = some (.string ⟨#[]⟩) ∧ W.cell? ⟨b7, o7 + m * 4 + 3, none⟩ = some (.slice kx kn ky))) W) => (by
                 have h5 : w5o.heap.size ≠ w3o.heap.size := by have := HT8.out.lt; omega
                 have h6 : w5o.heap.size ≠ b7 := by omega
                 obtain ⟨g0, g1, g2, g3, g4, g5, g6⟩ := h
                 have hcc : ∀ p : Addr, p.block ≠ w5o.heap.size → (((W.setCell ⟨w5o.heap.size, 0, none⟩ u0).setCell ⟨w5o.heap.size, 1, none⟩ u1).setCell ⟨w5o.heap.size, 2, none⟩ u2).cell? p = W.cell? p := fun p hp => by
                  rw [World.cell?_setCell_other _ _ _ _ (fun e => hp (by rw [← e])), World.cell?_setCell_other _ _ _ _ (fun e => hp (by rw [← e])), World.cell?_setCell_other _ _ _ _ (fun e => hp (by rw [← e]))]
                 exact ⟨(hcc _ (Ne.symm h5)).trans g0, (hcc _ (Ne.symm h5)).trans g1, (hcc _ (Ne.symm h5)).trans g2, (hcc _ (Ne.symm h6)).trans g3, (hcc _ (Ne.symm h6)).trans g4, (hcc _ (Ne.symm h6)).trans g5, (hcc _ (Ne.symm h6)).trans g6⟩ : ((fun W => W.cell? ⟨w3o.heap.size, 0, none⟩ = some (.int .i64 ia) ∧ W.cell? ⟨w3o.heap.size, 1, none⟩ = some (.string na) ∧ W.cell? ⟨w3o.heap.size, 2, none⟩ = some (.slice ta tn tc) ∧ W.cell? ⟨b7, o7 + m * 4, none⟩ = some (.int .i64 5) ∧ W.cell? ⟨b7, o7 + m * 4 + 1, none⟩ = some (.int .i64 (r : Int)) ∧ W.cell? ⟨b7, o7 + m * 4 + 2, none⟩ = some (.string ⟨#[]⟩) ∧ W.cell? ⟨b7, o7 + m * 4 + 3, none⟩ = some (.slice kx kn ky))) (((W.setCell ⟨w5o.heap.size, 0, none⟩ u0).setCell ⟨w5o.heap.size, 1, none⟩ u1).setCell ⟨w5o.heap.size, 2, none⟩ u2))
                have HSST := hid hSst
                have hS0 := HSK.out _ ((Below.refl w12.heap.size w12).drew)
                have hmw : IntKind.i64.wrap ((m : Int) + 1 - 1) = (m : Int) := by
                 rw [show (m : Int) + 1 - 1 = (m : Int) by omega]
                 exact IntWalk.i64_in _ (by omega)
                have hml : (m : Int) < (m : Int) + 1 := by omega
                have hmw2 : IntKind.i64.wrap (m : Int) = (m : Int) := IntWalk.i64_in _ (by omega)
                have hmw3 : IntKind.i64.wrap (((m + 1 : Nat) : Int) - 1) = (m : Int) := by
                 rw [show ((m + 1 : Nat) : Int) - 1 = (m : Int) by omega]
                 exact hmw2
                have hml3 : (m : Int) < ((m + 1 : Nat) : Int) := by omega
                have hm0 : (0 : Int) ≤ (m : Int) := by omega
                clear e7 hk7 k0 k1 k2 k3 hSst hown7 hget
                go_region_held_law (fun W => W.cell? ⟨w3o.heap.size, 0, none⟩ = some (.int .i64 ia) ∧ W.cell? ⟨w3o.heap.size, 1, none⟩ = some (.string na) ∧ W.cell? ⟨w3o.heap.size, 2, none⟩ = some (.slice ta tn tc) ∧ W.cell? ⟨b7, o7 + m * 4, none⟩ = some (.int .i64 5) ∧ W.cell? ⟨b7, o7 + m * 4 + 1, none⟩ = some (.int .i64 (r : Int)) ∧ W.cell? ⟨b7, o7 + m * 4 + 2, none⟩ = some (.string ⟨#[]⟩) ∧ W.cell? ⟨b7, o7 + m * 4 + 3, none⟩ = some (.slice kx kn ky))
                 (first | exact hS0 | exact hS1 | exact hS2 | go_keep)
                 (first
                  | (go_at_call 69; go_must (((with_reducible refine (HDO37.out _ (Below.refl w12.heap.size w12).drew).mono ?_); rintro e w13 ⟨v13, rfl, hco13, hb13⟩; obtain ⟨a13, c13, rfl⟩ := rdCo_len hco13; have HB13 := hid ((Below.refl w12.heap.size w12).drew.trans hb13); have HCO13 := hid hco13; have HV13 := hid (HV12.out.below HB13.out HV12.out.lt); have hS1 := HSK.out w13 HB13.out; have hS2 := HSST.out w13 (.int .i64 ia) (.string na) (.slice a13 (doL U (opSort r)).length c13) hS1; have z0 := HV13.out.cell 0 rfl; have z1 := HV13.out.cell 1 rfl; have z2 := HV13.out.cell 2 rfl; have f0 := HV13.out.frozen 0; have f1 := HV13.out.frozen 1; have f2 := HV13.out.frozen 2; clear hco13 hb13))))
                all_goals
                 have HPV13 := hid (rdCo_nxF HR12.out HB13.out)
                 have hz13 := HB13.out.size
                 have HCO14 := hid (HCO13.out.more (S' := (· < w13.heap.size)) fun b hb => by
                  rcases hb with h | h
                  ·have h' : b < w12.heap.size := by simpa using h
                   show b < w13.heap.size
                   omega
                  ·exact h.2)
                 have HNEM : Hid (doL U (opSort r) ≠ [] → U ≠ []) := hid (fun h1 h2 => h1 (do_none (by rw [HULN.out]; exact can_sort hrt) h2))
                 have HW13 := hid ((HSX5.out.trans (HB12.out.mono hx5)).trans (HB13.out.mono (by omega)))
                 clear hS0 hS1 hS2 z0 z1 z2 f0 f1 f2 hmw hmw2 hmw3 hml hml3 hm0
                 go_wp2_with fail
                 go_meet
                 exact ⟨[opSort r], some ⟨b7, o7, none⟩, m + 1, c12, a13, _, c13, rfl, by rw [HM.out]; rfl, by simp, hid (.inr ⟨r, hrt, rfl⟩), hid (((HW13.out.setCell (p := ⟨w5o.heap.size, 0, none⟩) (Nat.le_refl _) _).setCell (p := ⟨w5o.heap.size, 1, none⟩) (Nat.le_refl _) _).setCell (p := ⟨w5o.heap.size, 2, none⟩) (Nat.le_refl _) _), hid (((HV13.out.set 0 _).set 1 _).set 2 _), hid ((box_store HV13.out HCO14.out HPV13.out HNEM.out _).more fun b hb => by simpa using hb)⟩
               ·have hkd : decide ((0 : Int) ≤ kI) = false := decide_eq_false hk0
                go_wp2_with fail
                go_meet
                exact ⟨[], a10, q2 + q4, c10, ta, tn, tc, rfl, by simp, by simp, hid (.inl (by trivial)), HW10, HT10, HR10⟩
              case rest =>
               obtain ⟨s, xa, xn, xc, va', vn, vc', rfl, hxn, hs1, HSS, HWX, HTV, HRV⟩ := hcut
               obtain ⟨wz, rfl⟩ : ∃ W, W = wc := ⟨wc, rfl⟩
               have HGz := hid (HG4c.out.trans ((HFc8.out.trans ((HG5.out.trans (HWX.out.mono hw5o)).mono hfc)).mono HG4c.out.size))
               have hwz := HWX.out.size
               have HSCz := hid (HSC.out (.slice va' vn vc') (runL U s) wz (HB4.out wz HGz.out) HRV.out)
               have HFNs := hid (fun h => HFN5.out s HSS.out h)
               have hkw : IntKind.i64.wrap (kI + 1) = ((q5 + 1 : Nat) : Int) - 1 := by
                rw [show kI + 1 = ((q5 + 1 : Nat) : Int) - 1 by have := HKI.out; omega]
                exact IntWalk.i64_in _ (by omega)
               have v0 := HTV.out.cell 0 rfl
               have v1 := HTV.out.cell 1 rfl
               have v2 := HTV.out.cell 2 rfl
               have b0 := (HY4.out wz HGz.out).cell 0 rfl
               have b1 := (HY4.out wz HGz.out).cell 1 rfl
               have b2 := (HY4.out wz HGz.out).cell 2 rfl
               have HB5z := hid (HG5.out.trans (HWX.out.mono hw5o))
               have hxn8 : xn ≤ 8 := by omega
               have HXN := hid hxn
               clear hxn
               go_wp2_with fail
               clear v0 v1 v2 b0 b1 b2
               with_reducible refine HSCz.out.mono ?_
               rintro e w14 ⟨rfl, hb14⟩
               have HB14 := hid (HB5z.out.trans (hb14.mono HB5z.out.size))
               clear hb14 HSCz
               by_cases hsame : runL U s = ys
               ·have HFD2 : Hid (∃ l, findL xs ys = some l ∧ l.length ≤ xn) := hid (by
                 obtain ⟨l', h1, h2⟩ := HFNs.out hsame
                 refine ⟨l', h1, ?_⟩
                 have h3 := HLN.out
                 have h4 := HDL.out
                 have h5 := HXN.out
                 omega)
                rw [decide_eq_true hsame]
                clear hsame HFNs
                cases fd with
                | false =>
                 go_wp2_with fail
                 go_roundg (g5 - 1)
                 case rel => exact ⟨q5 + 1, xa, xn, xc, true, rfl, rfl, by first | rfl | (congr 1; omega) | (rw [← hkw]; rfl), by omega, hxn8, HB14, hid (fun _ => HFD2.out)⟩
                 case measure => omega
                | true =>
                 by_cases hlt : xn < bn
                 ·have hlti : (xn : Int) < (bn : Int) := by omega
                  have hltd : decide ((xn : Int) < (bn : Int)) = true := decide_eq_true hlti
                  go_wp2_with fail
                  go_roundg (g5 - 1)
                  case rel => exact ⟨q5 + 1, xa, xn, xc, true, rfl, rfl, by first | rfl | (congr 1; omega) | (rw [← hkw]; rfl), by omega, hxn8, HB14, hid (fun _ => HFD2.out)⟩
                  case measure => omega
                 ·have hlti : ¬ (xn : Int) < (bn : Int) := by omega
                  have hltd : decide ((xn : Int) < (bn : Int)) = false := decide_eq_false hlti
                  go_wp2_with fail
                  go_roundg (g5 - 1)
                  case rel => exact ⟨q5 + 1, bx, bn, bc, true, rfl, rfl, by first | rfl | (congr 1; omega) | (rw [← hkw]; rfl), by omega, hbn, HB14, hid (fun _ => HFD.out trivial)⟩
                  case measure => omega
               ·rw [decide_eq_false hsame]
                clear hsame HFNs
                go_wp2_with fail
                go_roundg (g5 - 1)
                case rel => exact ⟨q5 + 1, bx, bn, bc, fd, rfl, rfl, by first | rfl | (congr 1; omega) | (rw [← hkw]; rfl), by omega, hbn, HB14, HFD⟩
                case measure => omega
             ·obtain rfl : g5 = 0 := by omega
              obtain rfl : q5 = tn + 1 := by omega
              have hk5 : ¬ (((tn + 1 : Nat) : Int) - 1 < (tn : Int)) := by omega
              have HFF := hid (HF3.out.trans (HG5.out.mono hf3))
              go_wp2_with fail
              go_roundg (g3 - 1)
              case rel => exact ⟨q4 + 1, bx, bn, bc, fd, rfl, rfl, by go_num, by omega, hbn, HFF, HFD⟩
              case measure => omega
           ·have hrI : ¬ (rowsC U : Int) = (rowsC ys : Int) := by omega
            have hrd : decide ((rowsC U : Int) = (rowsC ys : Int)) = false := decide_eq_false hrI
            have hrb : ((rowsC U : Int) == (rowsC ys : Int)) = false := beq_false_of_ne hrI
            clear HFN4 hrr
            generalize rowsC U = ru at *
            generalize rowsC ys = rb at *
            refine wp_region_later (by kernel_rfl) (by kernel_rfl) ?_
            repeat (first | go_big_quiet_step ((first | (go_at_call 31; with_reducible exact HC1.out _) | (go_at_call 31; with_reducible exact HC2.out _))) | quiet_step ((first | (go_at_call 31; with_reducible exact HC1.out _) | (go_at_call 31; with_reducible exact HC2.out _))))
            refine wpQuiet_nil ?_
            intro _ hw'
            obtain ⟨p5, hw''⟩ := hw'
            subst hw''
            have hb8 := p5.hb
            generalize p5.W = w8 at *
            have HF3 := hid (HG34.out.trans (hb8.mono HG34.out.size))
            clear hb8 p5 s0 s1 s2 t0 t1 t2 HC1 HC2
            go_wp2_with fail
            go_roundg (g3 - 1)
            case rel => exact ⟨q4 + 1, bx, bn, bc, fd, rfl, rfl, by go_num, by omega, hbn, HF3, HFD⟩
            case measure => omega
        ·obtain rfl : g3 = 0 := by omega
         obtain rfl : q3 = 2 := by omega
         have HBF := hid (HG.out.trans ((HBC.out.trans (HGc3o.out.mono hwc)).mono hwo))
         go_wp2_with fail
         go_roundg (go - 1)
         case rel => exact ⟨q + 1, bx, bn, bc, fd, rfl, rfl, by go_num, by omega, hbn, HBF, HFD⟩
         case measure => omega
   ·obtain rfl : go = 0 := by omega
    obtain rfl : q = FL := by omega
    have HF := hid (HB4.out wo HG.out)
    go_wp2
    refine bodyPost_ret (v := .tuple #[.slice bx bn bc, .bool fd]) (by simp [results, Tryz.results33, go_sem]) rfl ?_
    exact ⟨bx, bn, bc, fd, rfl, HF.out, HFD.out⟩
end Go.Proofs.YtaajpliifdlokaaGreatDoor
