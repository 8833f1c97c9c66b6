/- The walk of ExplainOps. -/
import Derived.Deep.Cut
import Derived.Deep.CutRange
import Derived.Test.YtfmlpaplnkohpaaGreatDoorExLdsbd
import Derived.Test.YtfmlpaplnkohpaaGreatDoorExLdsah
import Derived.Test.YtfmlpaplnkohpaaGreatDoorExLdsbg
set_option linter.unusedVariables false
set_option linter.unusedSimpArgs false
namespace Go.Proofs.YtfmlpaplnkohpaaGreatDoor
open Go.RowKit

theorem rdCo_next {w w' : World} {v : Value} {xs : List Co} (h : RdCo w (· < w.heap.size) v xs) (hb : Below w.heap.size w w') : RdCo w' (· < w'.heap.size) v xs :=
  (h.keep fun p (hp : p.block < w.heap.size) => hb.cell (p := p) hp).more fun b (hb' : b < w.heap.size) => Nat.lt_of_lt_of_le hb' hb.size
theorem few_tab {nm : ByteArray} {xs : List Co} (hn : TextOk 1024 nm) (h : Few xs) (hl : xs.length ≤ 64) : TabV ⟨1, nm, xs⟩ := by
  obtain ⟨n, h1, h2⟩ := h
  exact ⟨by simp, by simp, hn, hl, n, by omega, h2⟩
theorem ktab_few {t : Ta} (h : KTabOk t) : Few t.cols := by
  obtain ⟨-, -, n, h1, h2⟩ := h
  exact ⟨n, by omega, fun x hx => ⟨(kcolNames_ok _ (h2 x hx).1).more (by omega), (h2 x hx).2.1, (h2 x hx).2.2⟩⟩
set_option maxRecDepth 100000 in
set_option maxHeartbeats 8000000 in
theorem law38_ops (a : Option Addr) (n c : Nat) (w : World) (hA : RdI w w.heap.size a n c) (hT : Tabs w) (hP : Pow w) :
    Calls Tryz.prog 5 #[.slice a n c] w (Ret w (.bool true)) := by
  have HA := hid hA
  have HT := hid hT
  have HP := hid hP
  have hnm : n ≤ maxLen := Nat.le_trans hA.1 hA.2.1
  have HAW := hid (fun W (hW : Below w.heap.size w W) => law38_awake W (hT.below hW))
  clear hA hT hP
  by_cases hg : n ≤ 500
  · have HLI := hid (kit_Light a n c w hnm)
    rw [decide_eq_true hg] at HLI
    go_enter Tryz.func5, Tryz.ntmps5
    generalize hLA : Code.loop _ = LA
    go_wp2_with fail
    with_reducible refine HLI.out.mono ?_
    rintro e w0 ⟨rfl, rfl⟩
    clear HLI
    go_wp2_with fail
    with_reducible refine (kit_Roll a n c _ HA.out hg HP.out).mono ?_
    rintro e w1 ⟨rfl, hd1, hb1⟩
    have HB1 := hid hb1
    have hz1 := hd1.lt
    have HKT : Hid (Calls Tryz.prog 14 #[.pointer (some ⟨w.heap.size, 0, none⟩), .int .i64 1] w1 (KTab w1 w.heap.size 1)) := hid (kit_Table w.heap.size 1 w1 hd1)
    clear hd1 hb1
    go_wp2_with fail
    with_reducible refine HKT.out.mono ?_
    rintro e w2 ⟨⟨id, nm, xs⟩, v, rfl, hid1, hok, hco, hd2, hr2⟩
    simp only at hid1 hok hco
    subst hid1
    have hz2 := hr2.size
    have HB2 := hid (HB1.out.trans (hr2.below (B' := w.heap.size) (Nat.le_refl _) (by omega)))
    have hrd := hco.read
    obtain ⟨va, vc, rfl⟩ := rdCo_len hrd
    have HFW := hid (ktab_few hok)
    have hl64 : xs.length ≤ 64 := by have := hok.2.1; simp only at this; omega
    have HTV := hid (hok.valid (by simp) (by simp))
    have HL64 := hid hl64
    simp only at HFW
    have HD3 := hid (hd2.alloc (.cells #[.int .i64 1, .string nm, .slice va xs.length vc] 29))
    have HTB3 := hid (BoxN.new w2 #[.int .i64 1, .string nm, .slice va xs.length vc] 29)
    have HBW3 := hid (HB2.out.alloc (by omega) (.cells #[.int .i64 1, .string nm, .slice va xs.length vc] 29))
    have HRT3 : Hid (RdCo (w2.alloc (.cells #[.int .i64 1, .string nm, .slice va xs.length vc] 29)) (fun b => w1.heap.size ≤ b ∧ b < w2.heap.size) (.slice va xs.length vc) xs) := hid (hrd.keep fun p hp => World.cell?_alloc_lt _ _ _ hp.2)
    have hz3 : (w2.alloc (.cells #[.int .i64 1, .string nm, .slice va xs.length vc] 29)).heap.size = w2.heap.size + 1 := by simp
    clear hrd hco hd2 hr2 hok HKT HP HA
    have HXL : Hid (xs.length = xs.length) := hid rfl
    generalize hxl : xs.length = L at HD3 HTB3 HBW3 HRT3 hz3 HXL hl64
    have HXE := hid hxl
    clear hxl HXL
    obtain ⟨W3, hW3⟩ : ∃ W3, W3 = w2.alloc (.cells #[.int .i64 1, .string nm, .slice va L vc] 29) := ⟨_, rfl⟩
    have x2 := HTB3.out.cell 2 rfl
    rw [← hW3] at HD3 HTB3 HBW3 HRT3 hz3
    have hz3a := Nat.le_of_eq hz3
    have hz3b := Nat.le_of_eq hz3.symm
    clear hz3
    by_cases hL : L = 0
    · subst hL
      go_wp2_with fail
      rw [← hW3]
      with_reducible refine (HAW.out W3 HBW3.out).mono ?_
      rintro e w4 ⟨rfl, hb4⟩
      have HF := hid (HBW3.out.trans (hb4.mono HBW3.out.size))
      go_wp2
      go_ret
      exact ⟨rfl, HF.out⟩
    · have hLi : ((L : Int) == 0) = false := by simp; omega
      have hL1 : ¬ (L : Int) = 0 := by omega
      go_upto_region 7 with fail
      rw [← hW3]
      clear hW3 x2
      go_cut [5, 6] from 35 to 44 (fun x y wx => ∃ i k : Nat, x = .int .i64 (i : Int) ∧ y = .int .i64 (k : Int) ∧ i < L ∧ k < L ∧ Hid (KDice wx w.heap.size) ∧ Hid (Roll W3.heap.size w.heap.size W3 wx))
      case first =>
        have HNX := hid (fun W (hd : KDice W w.heap.size) => kit_Next w.heap.size (L : Int) W hd (by omega) (by omega))
        have hdd : KDice W3.drew w.heap.size := HD3.out.drew
        have hrr : Roll W3.heap.size w.heap.size W3 W3.drew := (Roll.refl _ _ _).trans ⟨rfl, rfl, rfl, Nat.le_refl _, fun _ _ _ => rfl⟩
        have HDD := hid hdd
        have HRR := hid hrr
        have HG := hid (fun W (hW : Roll W3.heap.size w.heap.size W3 W) => ((hW.cell (p := ⟨w2.heap.size, 2, none⟩) (by show w2.heap.size < _; omega) (by show w2.heap.size ≠ _; omega)).trans (HTB3.out.cell 2 rfl) : W.cell? ⟨w2.heap.size, 2, none⟩ = some (.slice va L vc)))
        clear hdd hrr
        go_region_held3 (fun w' => w'.cell? ⟨w2.heap.size, 2, none⟩ = some (.slice va L vc))
          (first | exact HG.out _ (Roll.refl _ _ _) | exact HG.out _ HRR.out | exact HG.out _ HR6.out | exact HG.out _ HR5.out | go_keep)
          ((go_at_call 20; go_must (first
            | ((with_reducible refine (HNX.out _ HD5.out).mono ?_); rintro e w6 ⟨j2, rfl, hj2, hd6, hr6, -⟩; have HD6 := hid hd6; have HR6 := hid (HR5.out.trans (hr6.mono HR5.out.size)); clear hd6 hr6)
            | ((with_reducible refine (HNX.out _ HDD.out).mono ?_); rintro e w5 ⟨j1, rfl, hj1, hd5, hr5, -⟩; have HD5 := hid hd5; have HR5 : Hid (Roll W3.heap.size w.heap.size W3 w5) := hid (HRR.out.trans hr5); clear hd5 hr5))))
        all_goals
          go_wp2_with fail
          go_meet
          exact ⟨_, _, rfl, rfl, by omega, by omega, HD6, HR6⟩
      case rest =>
        obtain ⟨i, k, rfl, rfl, hi, hk, HD4, HR4⟩ := hcut
        obtain ⟨w4, rfl⟩ : ∃ w4, w4 = wc := ⟨wc, rfl⟩
        have hr4 := HR4.out.size
        have HBW4 := hid (HBW3.out.trans (HR4.out.below (B' := w.heap.size) (Nat.le_refl _) (by omega)))
        have HTB4 := hid (HTB3.out.roll HR4.out (by omega) (by omega))
        have HRT4 : Hid (RdCo w4 (fun b => w1.heap.size ≤ b ∧ b < w2.heap.size) (.slice va L vc) xs) := hid (HRT3.out.keep fun p hp => HR4.out.cell (p := p) (by have := hp.2; omega) (by have := hp.1; omega))
        clear HTB3 HRT3 HBW3 HD3 HR4
        have hsb := BoxN.new w4 #[.string ⟨#[97]⟩, .string ⟨#[98]⟩, .string ⟨#[49]⟩, .string ⟨#[50]⟩] 9
        have hd5 := HD4.out.alloc (.cells #[.string ⟨#[97]⟩, .string ⟨#[98]⟩, .string ⟨#[49]⟩, .string ⟨#[50]⟩] 9)
        have HWD := hid (kit_Word w.heap.size w4.heap.size 4 [⟨#[97]⟩, ⟨#[98]⟩, ⟨#[49]⟩, ⟨#[50]⟩] (w4.alloc (.cells #[.string ⟨#[97]⟩, .string ⟨#[98]⟩, .string ⟨#[49]⟩, .string ⟨#[50]⟩] 9)) hd5 hsb (by omega) rfl (by omega) (by omega))
        have hrc : Roll w4.heap.size w.heap.size w4 (w4.alloc (.cells #[.string ⟨#[97]⟩, .string ⟨#[98]⟩, .string ⟨#[49]⟩, .string ⟨#[50]⟩] 9)) := (Roll.refl _ _ _).alloc (Nat.le_refl _) _
        have HRC := hid hrc
        clear hsb hd5 hrc HD4
        go_wp2_with fail
        with_reducible refine HWD.out.mono ?_
        rintro e w7 ⟨s, rfl, hs, -, hr7, -⟩
        have hr47 := HRC.out.trans (hr7.mono HRC.out.size)
        have hs4 : s.size ≤ 1024 := by
          rcases List.mem_cons.1 hs with rfl | hs
          · decide
          · rcases List.mem_cons.1 hs with rfl | hs
            · decide
            · rcases List.mem_cons.1 hs with rfl | hs
              · decide
              · rcases List.mem_cons.1 hs with rfl | hs
                · decide
                · cases hs
        have hr7s := hr47.size
        have HBW7 := hid (HBW4.out.trans (hr47.below (B' := w.heap.size) (Nat.le_refl _) (by omega)))
        have HTB7 := hid (HTB4.out.roll hr47 (by omega) (by omega))
        have HRT7 : Hid (RdCo w7 (· < w7.heap.size) (.slice va L vc) xs) := hid ((HRT4.out.keep fun p hp => hr47.cell (p := p) (by have := hp.2; omega) (by have := hp.1; omega)).more fun b hb => by have := hb.2; omega)
        clear hr47 hr7 hs HWD HRC HTB4 HRT4 HBW4
        have HXI : Hid (i < xs.length) := hid (by rw [HXE.out]; exact hi)
        have HXK : Hid (k < xs.length) := hid (by rw [HXE.out]; exact hk)
        have HCPQ : Hid (canRun xs [opFull i, opEq k s] = true) := hid (by
          have h1 := can_full HXI.out
          have h2 : (doL xs (opFull i)).length = xs.length := names_len (names_do (by simp [opFull]))
          simp [canRun, h1, h2, can_eq HXK.out hs4])
        have HCQP : Hid (canRun xs [opEq k s, opFull i] = true) := hid (by
          have h1 := can_full HXI.out
          have h2 : (doL xs (opEq k s)).length = xs.length := names_len (names_do (by simp [opEq]))
          simp [canRun, h2, h1, can_eq HXK.out hs4])
        have HCDS : Hid (canRun xs [opDist, opSort i] = true) := hid (by
          have h2 : (doL xs opDist).length = xs.length := names_len (names_do (by decide))
          simp [canRun, h2, can_dist, can_sort HXI.out])
        have hul : (runL xs [opDist, opSort i]).length = xs.length := names_len (names_run fun o ho => by
          rcases List.mem_cons.1 ho with rfl | ho
          · decide
          · rcases List.mem_cons.1 ho with rfl | ho
            · simp [opSort]
            · cases ho)
        have HCSD : Hid (canRun (runL xs [opDist, opSort i]) [opSort i, opDist] = true) := hid (by
          have h1 : i < (runL xs [opDist, opSort i]).length := by rw [hul]; exact HXI.out
          simp [canRun, can_dist, can_sort h1])
        have hrk := run_ok [opDist, opSort i] xs HFW.out HL64.out HCDS.out 2
        have hfu : Few (runL xs [opDist, opSort i]) := hrk.1
        have HFU := hid hfu
        have hlu : (runL xs [opDist, opSort i]).length ≤ 64 := hrk.2.1
        have HTU := hid (few_tab HTV.out.2.2.1 HFU.out hlu)
        have HUL := hid hul
        have HRUN := hid (fun os W (hW : Below w.heap.size w W) u lv (hu : RdCo W (· < W.heap.size) u xs) (hlv : RdPo W (· < W.heap.size) lv os) (hcan : canRun xs os = true) (hl : os.length ≤ 5) => expl_Run ⟨1, nm, xs⟩ u lv os W.heap.size W HTV.out HFW.out hu hlv (Nat.le_refl _) (HT.out.below hW) hcan hl)
        have HRUU := hid (fun os W (hW : Below w.heap.size w W) u lv (hu : RdCo W (· < W.heap.size) u (runL xs [opDist, opSort i])) (hlv : RdPo W (· < W.heap.size) lv os) (hcan : canRun (runL xs [opDist, opSort i]) os = true) (hl : os.length ≤ 5) => expl_Run ⟨1, nm, runL xs [opDist, opSort i]⟩ u lv os W.heap.size W HTU.out HFU.out hu hlv (Nat.le_refl _) (HT.out.below hW) hcan hl)
        simp only at HRUN HRUU
        clear hul hrk hlu hs4 hfu
        obtain ⟨X0, hX0⟩ : ∃ X, X = (w7.alloc (.cells #[.int .i64 2, .int .i64 (i : Int), .string ⟨#[]⟩, .slice none 0 0] 47)).alloc (.cells #[.int .i64 1, .int .i64 (k : Int), .string s, .slice none 0 0] 47) := ⟨_, rfl⟩
        have hpb := (BoxN.new w7 #[.int .i64 2, .int .i64 (i : Int), .string ⟨#[]⟩, .slice none 0 0] 47).alloc (.cells #[.int .i64 1, .int .i64 (k : Int), .string s, .slice none 0 0] 47)
        have hqb := BoxN.new (w7.alloc (.cells #[.int .i64 2, .int .i64 (i : Int), .string ⟨#[]⟩, .slice none 0 0] 47)) #[.int .i64 1, .int .i64 (k : Int), .string s, .slice none 0 0] 47
        have hsx := ((Below.refl w7.heap.size w7).alloc (Nat.le_refl _) (.cells #[.int .i64 2, .int .i64 (i : Int), .string ⟨#[]⟩, .slice none 0 0] 47)).alloc (by simp) (.cells #[.int .i64 1, .int .i64 (k : Int), .string s, .slice none 0 0] 47)
        rw [World.size_alloc] at hqb
        rw [← hX0] at hpb hqb hsx
        have HPB0 := hid hpb
        have HQB0 := hid hqb
        have HTB0 := hid (HTB7.out.below hsx HTB7.out.lt)
        have HRT0 := hid (rdCo_next HRT7.out hsx)
        have HBW0 := hid (HBW7.out.trans (hsx.mono HBW7.out.size))
        clear hpb hqb hsx HTB7 HRT7 HBW7
        have HZX0 : Hid (w7.heap.size + 1 + 1 = X0.heap.size) := hid (by rw [hX0]; simp)
        have x0 := HTB0.out.cell 0 rfl
        have x1 := HTB0.out.cell 1 rfl
        have x2 := HTB0.out.cell 2 rfl
        have p0 := HPB0.out.cell 0 rfl
        have p1 := HPB0.out.cell 1 rfl
        have p2 := HPB0.out.cell 2 rfl
        have p3 := HPB0.out.cell 3 rfl
        have q0 := HQB0.out.cell 0 rfl
        have q1 := HQB0.out.cell 1 rfl
        have q2 := HQB0.out.cell 2 rfl
        have q3 := HQB0.out.cell 3 rfl
        have HON := hid (rdPo_two (o := opFull i) (p := opEq k s) (BoxN.new X0 #[.int .i64 2, .int .i64 (i : Int), .string ⟨#[]⟩, .slice none 0 0, .int .i64 1, .int .i64 (k : Int), .string s, .slice none 0 0] 47) (rdKs_nil _ _) (rdKs_nil _ _))
        have HA := hid ((Below.refl X0.heap.size X0).alloc (Nat.le_refl _) (.cells #[.int .i64 2, .int .i64 (i : Int), .string ⟨#[]⟩, .slice none 0 0, .int .i64 1, .int .i64 (k : Int), .string s, .slice none 0 0] 47))
        have HRN := hid (HRUN.out [opFull i, opEq k s] (X0.alloc (.cells #[.int .i64 2, .int .i64 (i : Int), .string ⟨#[]⟩, .slice none 0 0, .int .i64 1, .int .i64 (k : Int), .string s, .slice none 0 0] 47)) (HBW0.out.trans (HA.out.mono HBW0.out.size)) _ _ (rdCo_next HRT0.out HA.out) HON.out HCPQ.out (by simp))
        clear HON
        rw [hX0] at x0 x1 x2 p0 p1 p2 p3 q0 q1 q2 q3
        go_wp2_with fail
        rw [← hX0]
        rw [HZX0.out]
        clear hX0 HZX0 x0 x1 x2 p0 p1 p2 p3 q0 q1 q2 q3
        with_reducible refine HRN.out.mono ?_
        rintro e w11 ⟨y1, rfl, hrd, hb⟩
        have HS := hid (HA.out.trans (hb.mono HA.out.size))
        obtain ⟨y1a, y1c, rfl⟩ := rdCo_len hrd
        have hrd2 := hrd.more (S' := (· < w11.heap.size)) fun b hb => hb.2
        obtain ⟨l1, hl⟩ : ∃ l, l = (runL xs [opFull i, opEq k s]).length := ⟨_, rfl⟩
        rw [← hl] at hrd2
        rw [← hl]
        have HYL1 := hid hl
        obtain ⟨X1, hX1⟩ : ∃ X, X = w11.alloc (.cells #[.int .i64 1, .string nm, .slice y1a l1 y1c] 29) := ⟨_, rfl⟩
        have HZX1 : Hid (w11.heap.size + 1 = X1.heap.size) := hid (by rw [hX1]; simp)
        have hbx := BoxN.new w11 #[.int .i64 1, .string nm, .slice y1a l1 y1c] 29
        have hsx := HS.out.alloc HS.out.size (.cells #[.int .i64 1, .string nm, .slice y1a l1 y1c] 29)
        have hrd3 := rdCo_next hrd2 ((Below.refl w11.heap.size w11).alloc (Nat.le_refl _) (.cells #[.int .i64 1, .string nm, .slice y1a l1 y1c] 29))
        rw [← hX1] at hbx hsx hrd3
        have HBX1_1 := hid hbx
        have HSX := hid hsx
        have HRD1_1 := hid hrd3
        have HTB1 := hid (HTB0.out.below HSX.out HTB0.out.lt)
        have HPB1 := hid (HPB0.out.below HSX.out HPB0.out.lt)
        have HQB1 := hid (HQB0.out.below HSX.out HQB0.out.lt)
        have HRT1 := hid (rdCo_next HRT0.out HSX.out)
        have HBW1 := hid (HBW0.out.trans (HSX.out.mono HBW0.out.size))
        clear hrd hb hrd2 hl hbx hsx hrd3 HRN HA HS HSX HTB0 HPB0 HQB0 HRT0 HBW0 
        have x0 := HTB1.out.cell 0 rfl
        have x1 := HTB1.out.cell 1 rfl
        have x2 := HTB1.out.cell 2 rfl
        have p0 := HPB1.out.cell 0 rfl
        have p1 := HPB1.out.cell 1 rfl
        have p2 := HPB1.out.cell 2 rfl
        have p3 := HPB1.out.cell 3 rfl
        have q0 := HQB1.out.cell 0 rfl
        have q1 := HQB1.out.cell 1 rfl
        have q2 := HQB1.out.cell 2 rfl
        have q3 := HQB1.out.cell 3 rfl
        have HON := hid (rdPo_two (o := opEq k s) (p := opFull i) (BoxN.new X1 #[.int .i64 1, .int .i64 (k : Int), .string s, .slice none 0 0, .int .i64 2, .int .i64 (i : Int), .string ⟨#[]⟩, .slice none 0 0] 47) (rdKs_nil _ _) (rdKs_nil _ _))
        have HA := hid ((Below.refl X1.heap.size X1).alloc (Nat.le_refl _) (.cells #[.int .i64 1, .int .i64 (k : Int), .string s, .slice none 0 0, .int .i64 2, .int .i64 (i : Int), .string ⟨#[]⟩, .slice none 0 0] 47))
        have HRN := hid (HRUN.out [opEq k s, opFull i] (X1.alloc (.cells #[.int .i64 1, .int .i64 (k : Int), .string s, .slice none 0 0, .int .i64 2, .int .i64 (i : Int), .string ⟨#[]⟩, .slice none 0 0] 47)) (HBW1.out.trans (HA.out.mono HBW1.out.size)) _ _ (rdCo_next HRT1.out HA.out) HON.out HCQP.out (by simp))
        clear HON
        rw [hX1] at x0 x1 x2 p0 p1 p2 p3 q0 q1 q2 q3
        go_wp2_with fail
        rw [← hX1]
        rw [HZX1.out]
        clear hX1 HZX1 x0 x1 x2 p0 p1 p2 p3 q0 q1 q2 q3
        with_reducible refine HRN.out.mono ?_
        rintro e w12 ⟨y2, rfl, hrd, hb⟩
        have HS := hid (HA.out.trans (hb.mono HA.out.size))
        obtain ⟨y2a, y2c, rfl⟩ := rdCo_len hrd
        have hrd2 := hrd.more (S' := (· < w12.heap.size)) fun b hb => hb.2
        obtain ⟨l2, hl⟩ : ∃ l, l = (runL xs [opEq k s, opFull i]).length := ⟨_, rfl⟩
        rw [← hl] at hrd2
        rw [← hl]
        have HYL2 := hid hl
        obtain ⟨X2, hX2⟩ : ∃ X, X = w12.alloc (.cells #[.int .i64 1, .string nm, .slice y2a l2 y2c] 29) := ⟨_, rfl⟩
        have HZX2 : Hid (w12.heap.size + 1 = X2.heap.size) := hid (by rw [hX2]; simp)
        have hbx := BoxN.new w12 #[.int .i64 1, .string nm, .slice y2a l2 y2c] 29
        have hsx := HS.out.alloc HS.out.size (.cells #[.int .i64 1, .string nm, .slice y2a l2 y2c] 29)
        have hrd3 := rdCo_next hrd2 ((Below.refl w12.heap.size w12).alloc (Nat.le_refl _) (.cells #[.int .i64 1, .string nm, .slice y2a l2 y2c] 29))
        rw [← hX2] at hbx hsx hrd3
        have HBX2_2 := hid hbx
        have HSX := hid hsx
        have HRD2_2 := hid hrd3
        have HTB2 := hid (HTB1.out.below HSX.out HTB1.out.lt)
        have HPB2 := hid (HPB1.out.below HSX.out HPB1.out.lt)
        have HQB2 := hid (HQB1.out.below HSX.out HQB1.out.lt)
        have HRT2 := hid (rdCo_next HRT1.out HSX.out)
        have HBW2 := hid (HBW1.out.trans (HSX.out.mono HBW1.out.size))
        have HBX1_2 := hid (HBX1_1.out.below HSX.out HBX1_1.out.lt)
        have HRD1_2 := hid (rdCo_next HRD1_1.out HSX.out)
        clear hrd hb hrd2 hl hbx hsx hrd3 HRN HA HS HSX HTB1 HPB1 HQB1 HRT1 HBW1 HBX1_1 HRD1_1
        have x0 := HTB2.out.cell 0 rfl
        have x1 := HTB2.out.cell 1 rfl
        have x2 := HTB2.out.cell 2 rfl
        have HON := hid (rdPo_two (o := opDist) (p := opSort i) (BoxN.new X2 #[.int .i64 4, .int .i64 0, .string ⟨#[]⟩, .slice none 0 0, .int .i64 5, .int .i64 (i : Int), .string ⟨#[]⟩, .slice none 0 0] 47) (rdKs_nil _ _) (rdKs_nil _ _))
        have HA := hid ((Below.refl X2.heap.size X2).alloc (Nat.le_refl _) (.cells #[.int .i64 4, .int .i64 0, .string ⟨#[]⟩, .slice none 0 0, .int .i64 5, .int .i64 (i : Int), .string ⟨#[]⟩, .slice none 0 0] 47))
        have HRN := hid (HRUN.out [opDist, opSort i] (X2.alloc (.cells #[.int .i64 4, .int .i64 0, .string ⟨#[]⟩, .slice none 0 0, .int .i64 5, .int .i64 (i : Int), .string ⟨#[]⟩, .slice none 0 0] 47)) (HBW2.out.trans (HA.out.mono HBW2.out.size)) _ _ (rdCo_next HRT2.out HA.out) HON.out HCDS.out (by simp))
        clear HON
        rw [hX2] at x0 x1 x2
        go_wp2_with fail
        rw [← hX2]
        rw [HZX2.out]
        clear hX2 HZX2 x0 x1 x2
        with_reducible refine HRN.out.mono ?_
        rintro e w13 ⟨y3, rfl, hrd, hb⟩
        have HS := hid (HA.out.trans (hb.mono HA.out.size))
        obtain ⟨y3a, y3c, rfl⟩ := rdCo_len hrd
        have hrd2 := hrd.more (S' := (· < w13.heap.size)) fun b hb => hb.2
        obtain ⟨l3, hl⟩ : ∃ l, l = (runL xs [opDist, opSort i]).length := ⟨_, rfl⟩
        rw [← hl] at hrd2
        rw [← hl]
        have HYL3 := hid hl
        obtain ⟨X3, hX3⟩ : ∃ X, X = w13.alloc (.cells #[.int .i64 1, .string nm, .slice y3a l3 y3c] 29) := ⟨_, rfl⟩
        have HZX3 : Hid (w13.heap.size + 1 = X3.heap.size) := hid (by rw [hX3]; simp)
        have hbx := BoxN.new w13 #[.int .i64 1, .string nm, .slice y3a l3 y3c] 29
        have hsx := HS.out.alloc HS.out.size (.cells #[.int .i64 1, .string nm, .slice y3a l3 y3c] 29)
        have hrd3 := rdCo_next hrd2 ((Below.refl w13.heap.size w13).alloc (Nat.le_refl _) (.cells #[.int .i64 1, .string nm, .slice y3a l3 y3c] 29))
        rw [← hX3] at hbx hsx hrd3
        have HBX3_3 := hid hbx
        have HSX := hid hsx
        have HRD3_3 := hid hrd3
        have HTB3 := hid (HTB2.out.below HSX.out HTB2.out.lt)
        have HPB3 := hid (HPB2.out.below HSX.out HPB2.out.lt)
        have HQB3 := hid (HQB2.out.below HSX.out HQB2.out.lt)
        have HRT3 := hid (rdCo_next HRT2.out HSX.out)
        have HBW3 := hid (HBW2.out.trans (HSX.out.mono HBW2.out.size))
        have HBX1_3 := hid (HBX1_2.out.below HSX.out HBX1_2.out.lt)
        have HRD1_3 := hid (rdCo_next HRD1_2.out HSX.out)
        have HBX2_3 := hid (HBX2_2.out.below HSX.out HBX2_2.out.lt)
        have HRD2_3 := hid (rdCo_next HRD2_2.out HSX.out)
        clear hrd hb hrd2 hl hbx hsx hrd3 HRN HA HS HSX HTB2 HPB2 HQB2 HRT2 HBW2 HBX1_2 HRD1_2 HBX2_2 HRD2_2
        have u0 := HBX3_3.out.cell 0 rfl
        have u1 := HBX3_3.out.cell 1 rfl
        have u2 := HBX3_3.out.cell 2 rfl
        have HON := hid (rdPo_two (o := opSort i) (p := opDist) (BoxN.new X3 #[.int .i64 5, .int .i64 (i : Int), .string ⟨#[]⟩, .slice none 0 0, .int .i64 4, .int .i64 0, .string ⟨#[]⟩, .slice none 0 0] 47) (rdKs_nil _ _) (rdKs_nil _ _))
        have HA := hid ((Below.refl X3.heap.size X3).alloc (Nat.le_refl _) (.cells #[.int .i64 5, .int .i64 (i : Int), .string ⟨#[]⟩, .slice none 0 0, .int .i64 4, .int .i64 0, .string ⟨#[]⟩, .slice none 0 0] 47))
        have HRN := hid (HRUU.out [opSort i, opDist] (X3.alloc (.cells #[.int .i64 5, .int .i64 (i : Int), .string ⟨#[]⟩, .slice none 0 0, .int .i64 4, .int .i64 0, .string ⟨#[]⟩, .slice none 0 0] 47)) (HBW3.out.trans (HA.out.mono HBW3.out.size)) _ _ (rdCo_next HRD3_3.out HA.out) HON.out HCSD.out (by simp))
        clear HON
        rw [hX3] at u0 u1 u2
        go_wp2_with fail
        rw [← hX3]
        rw [HZX3.out]
        clear hX3 HZX3 u0 u1 u2
        with_reducible refine HRN.out.mono ?_
        rintro e w14 ⟨y4, rfl, hrd, hb⟩
        have HS := hid (HA.out.trans (hb.mono HA.out.size))
        obtain ⟨y4a, y4c, rfl⟩ := rdCo_len hrd
        have hrd2 := hrd.more (S' := (· < w14.heap.size)) fun b hb => hb.2
        obtain ⟨l4, hl⟩ : ∃ l, l = (runL (runL xs [opDist, opSort i]) [opSort i, opDist]).length := ⟨_, rfl⟩
        rw [← hl] at hrd2
        rw [← hl]
        have HYL4 := hid hl
        obtain ⟨X4, hX4⟩ : ∃ X, X = w14.alloc (.cells #[.int .i64 1, .string nm, .slice y4a l4 y4c] 29) := ⟨_, rfl⟩
        have HZX4 : Hid (w14.heap.size + 1 = X4.heap.size) := hid (by rw [hX4]; simp)
        have hbx := BoxN.new w14 #[.int .i64 1, .string nm, .slice y4a l4 y4c] 29
        have hsx := HS.out.alloc HS.out.size (.cells #[.int .i64 1, .string nm, .slice y4a l4 y4c] 29)
        have hrd3 := rdCo_next hrd2 ((Below.refl w14.heap.size w14).alloc (Nat.le_refl _) (.cells #[.int .i64 1, .string nm, .slice y4a l4 y4c] 29))
        rw [← hX4] at hbx hsx hrd3
        have HBX4_4 := hid hbx
        have HSX := hid hsx
        have HRD4_4 := hid hrd3
        have HTB4 := hid (HTB3.out.below HSX.out HTB3.out.lt)
        have HPB4 := hid (HPB3.out.below HSX.out HPB3.out.lt)
        have HQB4 := hid (HQB3.out.below HSX.out HQB3.out.lt)
        have HRT4 := hid (rdCo_next HRT3.out HSX.out)
        have HBW4 := hid (HBW3.out.trans (HSX.out.mono HBW3.out.size))
        have HBX1_4 := hid (HBX1_3.out.below HSX.out HBX1_3.out.lt)
        have HRD1_4 := hid (rdCo_next HRD1_3.out HSX.out)
        have HBX2_4 := hid (HBX2_3.out.below HSX.out HBX2_3.out.lt)
        have HRD2_4 := hid (rdCo_next HRD2_3.out HSX.out)
        have HBX3_4 := hid (HBX3_3.out.below HSX.out HBX3_3.out.lt)
        have HRD3_4 := hid (rdCo_next HRD3_3.out HSX.out)
        clear hrd hb hrd2 hl hbx hsx hrd3 HRN HA HS HSX HTB3 HPB3 HQB3 HRT3 HBW3 HBX1_3 HRD1_3 HBX2_3 HRD2_3 HBX3_3 HRD3_3
        have hswap : runL xs [opEq k s, opFull i] = runL xs [opFull i, opEq k s] := doL_swap (o := opEq k s) (p := opFull i) (.inl rfl) (.inr rfl) (by simpa [opEq] using HXK.out) (by simpa [opFull] using HXI.out)
        have honce := ops_once (xs := xs) (D := opDist) (S := opSort i) rfl rfl (by simpa [opSort] using HXI.out)
        have hru : doL (doL xs opDist) (opSort i) = runL xs [opDist, opSort i] := rfl
        rw [hru] at honce
        have hrv : runL (runL xs [opDist, opSort i]) [opSort i, opDist] = doL (doL (runL xs [opDist, opSort i]) (opSort i)) opDist := rfl
        have hd2 := HRD2_4.out
        rw [hswap] at hd2
        have hd4 := HRD4_4.out
        rw [hrv, honce.1] at hd4
        have HSM1 := hid (ref_SameT 1 nm _ _ _ X4.heap.size X4 HRD1_4.out hd2 (Nat.le_refl _))
        have HSM2 := hid (fun W (hW : Below X4.heap.size X4 W) => ref_SameT 1 nm _ _ _ W.heap.size W (rdCo_next HRD3_4.out hW) (rdCo_next hd4 hW) (Nat.le_refl _))
        have HRWS := hid (fun W (hW : Below X4.heap.size X4 W) => ref03_Rows 1 nm _ _ W.heap.size W (rdCo_next HRD3_4.out hW) (Nat.le_refl _))
        have HSRT := hid honce.2.1
        have HDIF := hid honce.2.2
        have HUCL := hid HFU.out.cells
        have hn19 := HFU.out.rows
        have HUI : Hid (i < (runL xs [opDist, opSort i]).length) := hid (by rw [HUL.out]; exact HXI.out)
        clear hswap honce hru hrv hd2 hd4 HRD1_4 HRD2_4 HRD4_4 HTB4 HPB4 HQB4 HRT4 HRUN HRUU HCPQ HCQP HCDS HCSD HYL1 HYL2 HYL4 HXI HXK HXE HTU HFU
        have a0 := HBX1_4.out.cell 0 rfl
        have a1 := HBX1_4.out.cell 1 rfl
        have a2 := HBX1_4.out.cell 2 rfl
        have b0 := HBX2_4.out.cell 0 rfl
        have b1 := HBX2_4.out.cell 1 rfl
        have b2 := HBX2_4.out.cell 2 rfl
        generalize runL xs [opDist, opSort i] = U at *
        rw [hX4] at a0 a1 a2 b0 b1 b2
        go_wp2_with fail
        rw [← hX4]
        clear hX4 a0 a1 a2 b0 b1 b2 HBX1_4 HBX2_4 HZX4
        with_reducible refine HSM1.out.mono ?_
        rintro e w15 ⟨rfl, hb15⟩
        have hx3 := HBX3_4.out.below hb15 HBX3_4.out.lt
        have hx4 := HBX4_4.out.below hb15 HBX4_4.out.lt
        have c0 := hx3.cell 0 rfl
        have c1 := hx3.cell 1 rfl
        have c2 := hx3.cell 2 rfl
        have d0 := hx4.cell 0 rfl
        have d1 := hx4.cell 1 rfl
        have d2 := hx4.cell 2 rfl
        have HB15 := hid hb15
        clear hx3 hx4 hb15 HSM1 HBX4_4
        go_wp2_with fail
        with_reducible refine (HSM2.out _ HB15.out).mono ?_
        rintro e w16 ⟨rfl, hb16⟩
        have HB16 := hid (HB15.out.trans (hb16.mono HB15.out.size))
        clear c0 c1 c2 d0 d1 d2 hb16 HSM2 HB15
        have hx3 := HBX3_4.out.below HB16.out HBX3_4.out.lt
        have c0 := hx3.cell 0 rfl
        have c1 := hx3.cell 1 rfl
        have c2 := hx3.cell 2 rfl
        clear hx3
        go_wp2_with fail
        with_reducible refine (HRWS.out _ HB16.out).mono ?_
        rintro e w17 ⟨rfl, hb17⟩
        have HB17 := hid (HB16.out.trans (hb17.mono HB16.out.size))
        clear c0 c1 c2 hb17 HRWS HB16
        have HBX := hid (HBX3_4.out.below HB17.out HBX3_4.out.lt)
        have HRD := hid (rdCo_next HRD3_4.out HB17.out)
        have HBW := hid (HBW4.out.trans (HB17.out.mono HBW4.out.size))
        clear HBX3_4 HRD3_4 HB17 HBW4
        generalize hN : rowsC U = N at *
        have HN := hid hN
        clear hN
        have HYL := hid HYL3.out.symm
        clear HYL3
        have hl3 : l3 ≤ 64 := by have := HYL.out; have := HUL.out; have := HL64.out; omega
        go_wp2_with fail
        subst hLA
        go_loopg [114] N (fun M i0 wr => ∃ r : Nat, i0 = .int .i64 (r : Int) ∧ r + M = N ∧ Hid (Below w17.heap.size w17 wr))
        case atStart => exact ⟨0, rfl, by omega, hid (Below.refl _ _)⟩
        case round =>
          obtain ⟨r, rfl, hr, HB⟩ := hrel
          have HBX1 := hid (HBX.out.below HB.out HBX.out.lt)
          have HRD1 := hid (rdCo_next HRD.out HB.out)
          by_cases hp : 0 < gk
          · have hrN : r < N := by omega
            obtain ⟨b, o, c3, uv, e3, hb, hkid, k0, k1⟩ := co_at HRD1.out (q := i) HUI.out
            have HCL := hid hkid
            have hcn : (U.getD i Co.z).cells.length = N := HUCL.out _ (getD_mem HUI.out Co.z)
            obtain ⟨b5, o5, c5, e5, hb5, m0, m1⟩ := cl_at hkid (k := r) (by rw [hcn]; exact hrN)
            have HSRTr := hid (fun r1 (h : r1 + 1 = r) => HSRT.out r1 r (by omega) hrN)
            have hP := fun r1 (h : r1 + 1 = r) => cl_at hkid (k := r1) (by rw [hcn]; omega)
            rw [e5] at k1 hP
            rw [hcn] at k1 hP
            rw [HYL.out] at e3
            obtain ⟨rfl, -, rfl⟩ := Value.slice.inj e3
            have HPR := hid hP
            have hil3 : i < l3 := by have := HUI.out; have := HYL.out; omega
            clear hP e3 hkid hcn e5 HCL
            have x0 := HBX1.out.cell 0 rfl
            have x1 := HBX1.out.cell 1 rfl
            have x2 := HBX1.out.cell 2 rfl
            generalize hLC : Code.loop _ = LC
            go_upto_region 18 with fail
            obtain ⟨wo, rfl⟩ : ∃ wo, wo = wr := ⟨wr, rfl⟩
            obtain ⟨go, rfl⟩ : ∃ go, go = gk := ⟨gk, rfl⟩
            go_cut [141] from 117 to 140 (fun cc wx => cc = .bool false ∧ Hid (Below wo.heap.size wo wx))
            case first =>
              by_cases hr0 : r = 0
              · subst hr0
                refine wp_region_later (by kernel_rfl) (by kernel_rfl) ?_
                repeat (first | go_big_quiet_step (fail) | quiet_step (fail))
                refine wpQuiet_nil ?_
                intro _ hw'
                obtain ⟨p5, hw''⟩ := hw'
                subst hw''
                go_wp2_with fail
                go_meet
                exact ⟨rfl, hid p5.hb⟩
              · obtain ⟨r1, rfl⟩ : ∃ r1, r = r1 + 1 := ⟨r - 1, by omega⟩
                obtain ⟨b6, o6, c6, e6, hb6, n0, n1⟩ := HPR.out r1 rfl
                obtain ⟨e10, -, rfl⟩ := Value.slice.inj e6
                obtain ⟨rfl, rfl⟩ : b6 = b5 ∧ o6 = o5 := by
                  injection e10 with e11
                  injection e11 with e12 e13
                  exact ⟨e12.symm, e13.symm⟩
                have hsr : ¬ 0 < cmpC ((U.getD i Co.z).cells.getD r1 Cl.z) ((U.getD i Co.z).cells.getD (r1 + 1) Cl.z) := HSRTr.out r1 rfl
                have hwr : IntKind.i64.wrap ((r1 : Nat) : Int) = (r1 : Int) := IntWalk.i64_in _ (by omega)
                have f2 := fun p : LaterOf wo => p.cell x2
                have f3 := fun p : LaterOf wo => p.cell k1
                have f4 := fun p : LaterOf wo => p.cell m0
                have f5 := fun p : LaterOf wo => p.cell m1
                have f6 := fun p : LaterOf wo => p.cell n0
                have f7 := fun p : LaterOf wo => p.cell n1
                have HCMP := hid (fun p1 : LaterOf wo => later_call p1 (ref_CompareCells ((U.getD i Co.z).cells.getD r1 Cl.z) ((U.getD i Co.z).cells.getD (r1 + 1) Cl.z) p1.W))
                clear e6 e10 x0 x1 x2 k0 k1 m0 m1 n0 n1
                generalize cmpC ((U.getD i Co.z).cells.getD r1 Cl.z) ((U.getD i Co.z).cells.getD (r1 + 1) Cl.z) = cz at *
                generalize (U.getD i Co.z).cells.getD r1 Cl.z = z1 at *
                generalize (U.getD i Co.z).cells.getD (r1 + 1) Cl.z = z2 at *
                obtain ⟨zn1, zt1⟩ := z1
                obtain ⟨zn2, zt2⟩ := z2
                simp only at f4 f5 f6 f7 HCMP
                have hdz : decide (0 < cz) = false := decide_eq_false hsr
                have hii : (i : Int) < (l3 : Int) := by omega
                have hrr1 : (r1 : Int) < (N : Int) := by omega
                have hrr2 : (r1 : Int) + 1 < (N : Int) := by omega
                refine wp_region_later (by kernel_rfl) (by kernel_rfl) ?_
                repeat (first | go_big_quiet_step ((go_at_call 25; with_reducible exact HCMP.out _)) | quiet_step ((go_at_call 25; with_reducible exact HCMP.out _)))
                refine wpQuiet_nil ?_
                intro _ hw'
                obtain ⟨p5, hw''⟩ := hw'
                subst hw''
                go_wp2_with fail
                go_meet
                exact ⟨rfl, hid p5.hb⟩
            case rest =>
              obtain ⟨rfl, HBc⟩ := hcut
              obtain ⟨w18, rfl⟩ : ∃ w18, w18 = wc := ⟨wc, rfl⟩
              have HBX2 := hid (HBX1.out.below HBc.out HBX1.out.lt)
              have HRD2 := hid (rdCo_next HRD1.out HBc.out)
              have HB18 := hid (HB.out.trans (HBc.out.mono HB.out.size))
              clear x0 x1 x2 k0 k1 m0 m1 HPR HSRTr HBX1 HRD1 HBc
              go_wp2_with fail
              subst hLC
              go_loopg [143] r (fun M s0 W => ∃ q : Nat, s0 = .int .i64 (q : Int) ∧ q + M = r ∧ Hid (Below w18.heap.size w18 W))
              case atStart => exact ⟨0, rfl, by omega, hid (Below.refl _ _)⟩
              case round =>
                obtain ⟨q, rfl, hq, HBJ⟩ := hrel
                by_cases hp2 : 0 < gk
                · obtain ⟨wj, rfl⟩ : ∃ wj, wj = wr := ⟨wr, rfl⟩
                  obtain ⟨gj, rfl⟩ : ∃ gj, gj = gk := ⟨gk, rfl⟩
                  have hqr : q < r := by omega
                  have HBX3 := hid (HBX2.out.below HBJ.out HBX2.out.lt)
                  have HRD3 := hid (rdCo_next HRD2.out HBJ.out)
                  have HEQ : Hid (U.all (fun c => decide (c.cells.getD r Cl.z = c.cells.getD q Cl.z)) = false) := hid (by
                    have h := HDIF.out q r hqr hrN
                    rw [eqRow_comm] at h
                    exact h)
                  have x2 := HBX3.out.cell 2 rfl
                  generalize hLD : Code.loop _ = LD
                  go_wp2_with fail
                  subst hLD
                  clear x2
                  go_loopg [149, 19] l3 (fun M j sm W => ∃ p : Nat, j = .int .i64 (p : Int) ∧ p + M = l3 ∧ sm = .bool ((U.take p).all fun c => decide (c.cells.getD r Cl.z = c.cells.getD q Cl.z)) ∧ Hid (Below wj.heap.size wj W))
                  case atStart => exact ⟨0, rfl, by omega, rfl, hid (Below.refl _ _)⟩
                  case round =>
                    obtain ⟨p, rfl, hpl, rfl, HBK⟩ := hrel
                    by_cases hp3 : 0 < gk
                    · have hpU : p < U.length := by rw [HYL.out]; omega
                      have HRD4 := hid (rdCo_next HRD3.out HBK.out)
                      obtain ⟨b7, o7, c7, uv7, e7, hb7, hkid7, k0, k1⟩ := co_at HRD4.out (q := p) hpU
                      have hcn7 : (U.getD p Co.z).cells.length = N := HUCL.out _ (getD_mem hpU Co.z)
                      obtain ⟨b8, o8, c8, e8, hb8, m0, m1⟩ := cl_at hkid7 (k := r) (by rw [hcn7]; exact hrN)
                      obtain ⟨b9, o9, c9, e9, hb9, n0, n1⟩ := cl_at hkid7 (k := q) (by rw [hcn7]; omega)
                      rw [e8] at e9 k1
                      obtain ⟨e10, -, rfl⟩ := Value.slice.inj e9
                      obtain ⟨rfl, rfl⟩ : b9 = b8 ∧ o9 = o8 := by
                        injection e10 with e11
                        injection e11 with e12 e13
                        exact ⟨e12.symm, e13.symm⟩
                      rw [hcn7] at k1
                      rw [HYL.out] at e7
                      obtain ⟨e14, -, rfl⟩ := Value.slice.inj e7
                      obtain ⟨rfl, rfl⟩ : b7 = b ∧ o7 = o := by
                        injection e14 with e11
                        injection e11 with e12 e13
                        exact ⟨e12.symm, e13.symm⟩
                      have hb9' : b9 < wr.heap.size := hb9
                      have HSN : Hid (((U.take (p + 1)).all fun c => decide (c.cells.getD r Cl.z = c.cells.getD q Cl.z)) = ((U.take p).all (fun c => decide (c.cells.getD r Cl.z = c.cells.getD q Cl.z)) && decide ((U.getD p Co.z).cells.getD r Cl.z = (U.getD p Co.z).cells.getD q Cl.z))) := hid (by
                        rw [take_snocC hpU, List.all_append]
                        simp)
                      have HDEC := hid (cell_dec ((U.getD p Co.z).cells.getD r Cl.z) ((U.getD p Co.z).cells.getD q Cl.z))
                      clear e7 e8 e9 e10 e14 hkid7 hcn7 hb7 hb8 hb9
                      generalize (U.take p).all (fun c => decide (c.cells.getD r Cl.z = c.cells.getD q Cl.z)) = SM at *
                      generalize (U.getD p Co.z).cells.getD r Cl.z = z1 at *
                      generalize (U.getD p Co.z).cells.getD q Cl.z = z2 at *
                      generalize (U.getD p Co.z).name = xn at *
                      obtain ⟨zn1, zt1⟩ := z1
                      obtain ⟨zn2, zt2⟩ := z2
                      simp only at m0 m1 n0 n1 HDEC
                      have hcz : ∀ a : Addr, a.block < wr.heap.size → (wr.alloc (.cells #[.string xn, .slice (some ⟨b9, o9, none⟩) N c8] 39)).cell? a = wr.cell? a := fun a ha => World.cell?_alloc_lt _ _ _ ha
                      have q0 := (hcz ⟨b9, o9 + r * 2, none⟩ hb9').trans m0
                      have q1 := (hcz ⟨b9, o9 + r * 2 + 1, none⟩ hb9').trans m1
                      have q2 := (hcz ⟨b9, o9 + q * 2, none⟩ hb9').trans n0
                      have q3 := (hcz ⟨b9, o9 + q * 2 + 1, none⟩ hb9').trans n1
                      have d1 := (BoxN.new wr #[.string xn, .slice (some ⟨b9, o9, none⟩) N c8] 39).cell 1 rfl
                      have HB1 := hid (HBK.out.alloc HBK.out.size (.cells #[.string xn, .slice (some ⟨b9, o9, none⟩) N c8] 39))
                      have hrNi : (r : Int) < (N : Int) := by omega
                      have hqNi : (q : Int) < (N : Int) := by omega
                      clear hcz
                      cases SM with
                      | false =>
                        go_wp2_with fail
                        go_quiet (fail)
                        have HB2 := hid (below_drewN (n := nq) HB1.out)
                        go_wp2_with fail
                        go_roundg (gk - 1)
                        case rel => exact ⟨p + 1, by go_num, by omega, by rw [HSN.out]; rfl, HB2⟩
                        case measure => omega
                      | true =>
                        rcases HDEC.out with ⟨hd, h1, h2⟩ | ⟨hd, h1 | ⟨h1, h2⟩⟩
                        all_goals
                          have HDD := hid hd
                          clear hd
                          go_wp2_with fail
                          go_quiet (fail)
                          have HB2 := hid (below_drewN (n := nq) HB1.out)
                          go_wp2_with fail
                          go_roundg (gk - 1)
                          case rel => exact ⟨p + 1, by go_num, by omega, by rw [HSN.out, HDD.out]; rfl, HB2⟩
                          case measure => omega
                    · obtain rfl : gk = 0 := by omega
                      obtain rfl : p = l3 := by omega
                      rw [show (U.take p).all (fun c => decide (c.cells.getD r Cl.z = c.cells.getD q Cl.z)) = false from by rw [← HYL.out, List.take_length]; exact HEQ.out]
                      have HF := hid (HBJ.out.trans (HBK.out.mono HBJ.out.size))
                      go_wp2_with fail
                      go_roundg (gj - 1)
                      case rel => exact ⟨q + 1, by go_num, by omega, HF⟩
                      case measure => omega
                · obtain rfl : gk = 0 := by omega
                  obtain rfl : q = r := by omega
                  have HF := hid (HB18.out.trans (HBJ.out.mono HB18.out.size))
                  go_wp2_with fail
                  go_roundg (go - 1)
                  case rel => exact ⟨q + 1, by go_num, by omega, HF⟩
                  case measure => omega
          · obtain rfl : gk = 0 := by omega
            obtain rfl : r = N := by omega
            have HBF := hid (HBW.out.trans (HB.out.mono HBW.out.size))
            go_wp2_with fail
            with_reducible refine (HAW.out wr HBF.out).mono ?_
            rintro e w30 ⟨rfl, hb30⟩
            have HF := hid (HBF.out.trans (hb30.mono HBF.out.size))
            go_wp2
            go_ret
            exact ⟨rfl, HF.out⟩
  · have HLI := hid (kit_Light a n c w hnm)
    rw [decide_eq_false hg] at HLI
    go_enter Tryz.func5, Tryz.ntmps5
    go_wp2_with fail
    with_reducible refine HLI.out.mono ?_
    rintro e w0 ⟨rfl, rfl⟩
    go_wp2_with fail
    with_reducible refine (HAW.out w (Below.refl _ _)).mono ?_
    rintro e w4 ⟨rfl, hb4⟩
    go_wp2
    go_ret
    exact ⟨rfl, hb4⟩
end Go.Proofs.YtfmlpaplnkohpaaGreatDoor
