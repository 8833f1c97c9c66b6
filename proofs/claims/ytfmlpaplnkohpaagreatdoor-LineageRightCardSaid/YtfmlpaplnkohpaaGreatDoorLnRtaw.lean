/- Contracts of explain.keep, of its closure, and of slices.DeleteFunc at this closure. Contract of explain.keep. Contract of explain.actions$1: distinct rows. -/
import Derived.Test.YtfmlpaplnkohpaaGreatDoorLnRtav
import Derived.Test.YtfmlpaplnkohpaaGreatDoorLnRtao
import Derived.Lib.LazyBuf
import Derived.Lib.SliceRun
import Derived.Deep.RegionHeld3
import Derived.Test.YtfmlpaplnkohpaaGreatDoorLnRtat
set_option linter.unusedVariables false
set_option linter.unusedSimpArgs false
namespace Go.Proofs.YtfmlpaplnkohpaaGreatDoor
open Go.RowKit

set_option maxRecDepth 100000 in
set_option maxHeartbeats 2000000 in
theorem expl_keep1 (o : Po) (hk : o.kind = 1 ∨ o.kind = 2) (id : Int) (nm : ByteArray) (v u : Value) (xs : List Co) (i tb ob B : Nat) (w : World) (hv : RdCo w (· < B) v xs) (hB : B ≤ w.heap.size) (hcol : 0 ≤ o.col ∧ o.col < xs.length) (hi : ∀ x ∈ xs, i < x.cells.length)
    (ht : BoxN w tb 29 #[.int .i64 id, .string nm, v]) (ho : BoxN w ob 47 #[.int .i64 o.kind, .int .i64 o.col, .string o.text, u]) :
    Calls Tryz.prog 156 #[.int .i64 (i : Int), .pointer (some ⟨tb, 0, none⟩), .pointer (some ⟨ob, 0, none⟩)] w (Ret w (.bool (!keepF xs o i))) := by
  obtain ⟨kk, hkk⟩ : ∃ kk : Nat, o.col = (kk : Int) := ⟨o.col.toNat, by omega⟩
  have hkl : kk < xs.length := by omega
  have HD : Hid (keepF xs o i = if o.kind = 1 then !((xs.getD kk Co.z).cells.getD i Cl.z).null && decide (((xs.getD kk Co.z).cells.getD i Cl.z).text = o.text) else !((xs.getD kk Co.z).cells.getD i Cl.z).null) := hid (by
    unfold keepF cellAt
    rw [hkk]
    rfl)
  obtain ⟨cv, ⟨va, vc, rfl, hvc, hvm, hr⟩, hcl⟩ := hv
  obtain ⟨b, oo, rfl, hb, hcell⟩ := hr (by omega)
  have hbw : b < w.heap.size := by have : b < B := hb; omega
  obtain ⟨ca, ck, hcq, -, -, hcr⟩ := hcl kk hkl
  have k1 : w.cell? ⟨b, oo + kk * 2 + 1, none⟩ = some (cv kk) := hcell kk hkl 1 (by omega)
  have hiq := hi _ (getD_mem hkl Co.z)
  obtain ⟨b2, o2, rfl, hb2, hcell2⟩ := hcr (by omega)
  have m0 : w.cell? ⟨b2, o2 + i * 2, none⟩ = some (.bool ((xs.getD kk Co.z).cells.getD i Cl.z).null) := hcell2 i hiq 0 (by omega)
  have m1 : w.cell? ⟨b2, o2 + i * 2 + 1, none⟩ = some (.string ((xs.getD kk Co.z).cells.getD i Cl.z).text) := hcell2 i hiq 1 (by omega)
  rw [hcq] at k1
  unfold maxLen at hvm
  generalize keepF xs o i = R at *
  obtain ⟨kind, col, text, cols⟩ := o
  simp only at *
  subst hkk
  have hkl' : (kk : Int) < (xs.length : Int) := by omega
  have hii : (i : Int) < ((xs.getD kk Co.z).cells.length : Int) := by omega
  clear hcell hcell2 hcr hcq hr hcl hi hcol
  generalize (xs.getD kk Co.z).cells.getD i Cl.z = cc at *
  generalize (xs.getD kk Co.z).cells.length = n at *
  generalize xs.length = L at *
  obtain ⟨cn, ct⟩ := cc
  simp only at m0 m1 HD
  have t2 := ht.cell 2 rfl
  have o0 := ho.cell 0 rfl
  have o1 := ho.cell 1 rfl
  have o2' := ho.cell 2 rfl
  have HCX := hid (BoxN.new w #[.bool cn, .string ct] 42)
  have d0 := HCX.out.cell 0 rfl
  have d1 := HCX.out.cell 1 rfl
  have hox := ho.alloc (.cells #[.bool cn, .string ct] 42)
  have p0 := hox.cell 0 rfl
  have p2 := hox.cell 2 rfl
  have HB : Hid (Below w.heap.size w (w.alloc (.cells #[.bool cn, .string ct] 42))) := hid ((Below.refl _ _).alloc (Nat.le_refl _) _)
  clear ht ho hox
  cases cn with
  | true =>
    have HR : Hid (R = false) := hid (by rw [HD.out]; split <;> rfl)
    clear HD
    go_enter Tryz.func156, Tryz.ntmps156
    go_wp2
    go_ret
    exact ⟨ret_bool (by rw [HR.out]; rfl), HB.out⟩
  | false =>
    rcases hk with rfl | rfl
    · by_cases h : ct = text
      · have HR : Hid (R = true) := hid (by rw [HD.out, if_pos rfl, h]; simp)
        subst h
        have h2 : (ct.toList == ct.toList) = true := by simp
        clear HD
        go_enter Tryz.func156, Tryz.ntmps156
        go_wp2
        go_ret
        exact ⟨ret_bool (by rw [HR.out]; rfl), HB.out⟩
      · have HR : Hid (R = false) := hid (by rw [HD.out, if_pos rfl, decide_eq_false h]; rfl)
        have h2 : (ct.toList == text.toList) = false := by
          cases h5 : (ct.toList == text.toList) with
          | false => rfl
          | true => exact absurd (bytes_ext (eq_of_beq h5)) h
        clear HD
        go_enter Tryz.func156, Tryz.ntmps156
        go_wp2
        go_ret
        exact ⟨ret_bool (by rw [HR.out]; rfl), HB.out⟩
    · have HR : Hid (R = true) := hid (by rw [HD.out, if_neg (by decide)]; rfl)
      clear HD
      go_enter Tryz.func156, Tryz.ntmps156
      go_wp2
      go_ret
      exact ⟨ret_bool (by rw [HR.out]; rfl), HB.out⟩

theorem setCells_roll {B b : Nat} {a : World} : ∀ (vs : List Value) (o : Nat) (w : World), Roll B b a w → Roll B b a (w.setCells b o vs)
  | [], _, _, h => h
  | v :: r, o, _, h => setCells_roll r (o + 1) _ (h.setCell rfl v)
/-- the numbers below j that stay -/
def stayL (p : Nat → Bool) (j : Nat) : List Nat := (List.range j).filter fun q => !p q
theorem stay_succ (p : Nat → Bool) (j : Nat) : stayL p (j + 1) = if p j = true then stayL p j else stayL p j ++ [j] := by
  unfold stayL
  rw [List.range_succ, List.filter_append]
  cases h : p j <;> simp [h]
theorem stay_all {p : Nat → Bool} {n : Nat} (h : ∀ j, j < n → p j = false) : stayL p n = List.range n := List.filter_eq_self.2 fun j hj => by rw [h j (List.mem_range.1 hj)]; rfl
theorem stay_len (p : Nat → Bool) (j : Nat) : (stayL p j).length ≤ j := by
  have := List.length_filter_le (fun q => !p q) (List.range j)
  rw [List.length_range] at this
  exact this
/-- what stays lies at the head of block b -/
def Stays (w : World) (b n : Nat) (F : List Nat) (e : Ending) (w' : World) : Prop :=
  e = .returned (.slice (some ⟨b, 0, none⟩) F.length n) ∧ F.length ≤ n ∧ (∀ i, i < F.length → w'.cell? ⟨b, i, none⟩ = some (natF F i)) ∧ Roll w.heap.size b w w'

set_option maxRecDepth 100000 in
set_option maxHeartbeats 2000000 in
theorem del_keep (n b tb ob : Nat) (p : Nat → Bool) (w : World) (hN : Nums w b (List.range n)) (hn : n ≤ 1048576)
    (H : ∀ q, q < n → ∀ W, Roll w.heap.size b w W → Calls Tryz.prog 156 #[.int .i64 (q : Int), .pointer (some ⟨tb, 0, none⟩), .pointer (some ⟨ob, 0, none⟩)] W (Ret W (.bool (p q)))) :
    Calls Tryz.prog 154 #[.slice (some ⟨b, 0, none⟩) n n, .func (.func 156) #[] #[.pointer (some ⟨tb, 0, none⟩), .pointer (some ⟨ob, 0, none⟩)]] w (Stays w b n (stayL p n)) := by
  have hbl := World.rowIs.lt hN
  have HH := hid H
  have hrow : w.rowIs b 3 n (fun k => .int .i64 (k : Int)) := by
    have h := hN
    unfold Nums at h
    rw [List.length_range] at h
    exact h.congr fun i hi => by simp [natF, List.getD, hi]
  have HROW := hid hrow
  have HIX := hid (idx_keep (.slice (some ⟨b, 0, none⟩) n n) n (fun k => (k : Int)) p tb ob w.heap.size w ⟨_, _, rfl, Nat.le_refl _, by unfold maxLen; omega, fun _ => ⟨b, 0, rfl, hbl, fun i hi j hj => by
    obtain rfl : j = 0 := by omega
    rw [show 0 + i * 1 + 0 = i by omega]
    exact hrow.cell hi⟩⟩ (Nat.le_refl _) (fun q hq W hW => H q hq W (Roll.of_below hW b)))
  clear H hN hrow
  go_enter Tryz.func154, Tryz.ntmps154
  generalize hLA : Code.loop _ = LA
  go_wp2_with fail
  with_reducible refine HIX.out.mono ?_
  rintro e w1 ⟨r, rfl, hf, hb1⟩
  have HB1 := hid hb1
  have hrow1 := HROW.out.of_block (hb1.block b hbl)
  have HROW1 := hid hrow1
  clear hb1 hrow1 HIX HROW
  rcases hf with ⟨rfl, hall⟩ | ⟨i, rfl, hi, hpi, hbef⟩
  · have HSA := hid (stay_all hall)
    clear hall
    go_wp2
    go_ret
    unfold Stays
    rw [HSA.out, List.length_range]
    exact ⟨rfl, Nat.le_refl _, fun i hi => by rw [HROW1.out.cell hi]; simp [natF, List.getD, hi], Roll.of_below HB1.out b⟩
  · have HS0 : Hid (stayL p (i + 1) = List.range i) := hid (by rw [stay_succ, if_pos hpi, stay_all hbef])
    clear hpi hbef
    have hne : ¬ (i : Int) = -1 := by omega
    have HSU := hid (fun j => stay_succ p j)
    go_wp2_with fail
    subst hLA
    go_loopg [5, 6] n (fun N iv jv wr => ∃ (j : Nat) (X : Nat → Nat), n ≤ j + N ∧ j ≤ n ∧ iv = .int .i64 (((stayL p j).length : Nat) : Int) ∧ jv = .int .i64 (j : Int) ∧ (stayL p j).length < j ∧ Hid (Roll w.heap.size b w wr) ∧ Hid (wr.rowIs b 3 n (fun k => .int .i64 ((X k : Nat) : Int))) ∧ Hid (∀ k, k < (stayL p j).length → X k = (stayL p j).getD k 0) ∧ Hid (∀ k, j ≤ k → X k = k))
    case atStart =>
      refine ⟨i + 1, fun k => k, by omega, by omega, ?_, by go_num, ?_, hid (Roll.of_below HB1.out b), HROW1, hid (fun k hk => ?_), hid (fun k _ => rfl)⟩
      · rw [HS0.out, List.length_range]
      · rw [HS0.out, List.length_range]; omega
      · rw [HS0.out, List.length_range] at hk
        rw [HS0.out]
        simp [List.getD, hk]
    case round =>
      obtain ⟨j, X, hj, hjn0, rfl, rfl, hlt, HB, HR, HLO, HHI⟩ := hrel
      by_cases hp : j < n
      · have hjn : j < n := hp
        have c0 := HR.out.cell (i := j) hjn
        rw [HHI.out j (Nat.le_refl _)] at c0
        have HQ := hid (HH.out j hjn wr HB.out)
        have HSJ := hid (HSU.out j)
        generalize hFj : stayL p j = F at *
        have HFJ := hid hFj
        clear hFj
        generalize hfl : F.length = m at *
        have HFL := hid hfl
        clear hfl
        have hjn' : (j : Int) < (n : Int) := by omega
        go_wp2_with fail
        with_reducible refine HQ.out.mono ?_
        rintro e w4 ⟨rfl, hb4⟩
        have HB4 := hid (HB.out.trans (Roll.of_below (hb4.mono HB.out.size) b))
        have HR4 := hid (HR.out.of_block (hb4.block b (Nat.lt_of_lt_of_le hbl HB.out.size)))
        clear hb4 c0 HQ
        cases hpj : p j with
        | true =>
          have HS2 : Hid (stayL p (j + 1) = F) := hid (by rw [HSJ.out, if_pos hpj])
          clear hpj
          go_wp2
          go_roundg (gk - 1)
          case rel => exact ⟨j + 1, X, by omega, by omega, by rw [HS2.out, HFL.out], by go_num, by rw [HS2.out, HFL.out]; omega, HB4, HR4, by rw [HS2.out]; rw [HFL.out]; exact HLO, hid (fun k hk => HHI.out k (by omega))⟩
          case measure => omega
        | false =>
          have HS2 : Hid (stayL p (j + 1) = F ++ [j]) := hid (by rw [HSJ.out, if_neg (by rw [hpj]; simp)])
          clear hpj
          have s0 := HR4.out.cell (i := m) (by omega)
          have sf0 := HR4.out.frozen m
          have hmn : (m : Int) < (n : Int) := by omega
          go_wp2
          go_roundg (gk - 1)
          case rel =>
            refine ⟨j + 1, fun k => if k = m then j else X k, by omega, by omega, ?_, by go_num, ?_, hid (HB4.out.setCell rfl _), hid ((HR4.out.set m _).congr fun k hk => ?_), hid (fun k hk => ?_), hid (fun k hk => ?_)⟩
            · rw [HS2.out, List.length_append, List.length_singleton, HFL.out]; go_num
            · rw [HS2.out, List.length_append, List.length_singleton, HFL.out]; omega
            · dsimp only
              by_cases e : k = m
              · subst e; rw [if_pos rfl, if_pos rfl]
              · rw [if_neg e, if_neg e]
            · rw [HS2.out, List.length_append, List.length_singleton, HFL.out] at hk
              rw [HS2.out]
              dsimp only
              by_cases e : k = m
              · subst e
                rw [if_pos rfl, List.getD_eq_getElem?_getD, List.getElem?_append_right (by rw [HFL.out]; omega), HFL.out]
                simp
              · rw [if_neg e, HLO.out k (by omega)]
                simp [List.getD, List.getElem?_append_left (show k < F.length by rw [HFL.out]; omega)]
            · dsimp only
              rw [if_neg (by omega)]
              exact HHI.out k (by omega)
          case measure => omega
      · obtain rfl : j = n := by omega
        generalize hFj : stayL p j = F at *
        generalize hfl : F.length = m at *
        have HFL := hid hfl
        clear hFj hfl HS0
        have hcl : ∀ ty, (Builtin.clear_ #[22] ty #[.slice (some ⟨b, m, none⟩) (j - m) (j - m)]).run Tryz.prog wr = .ok (.tuple #[]) (wr.setCells b m (List.replicate (j - m) (.int .i64 0))) :=
          fun ty => Lib.run_clear_slice wr _ _ ty _ Tryz.underlying22 Tryz.zeroValue3 rfl rfl b m _ _ (by omega) (fun t ht => by rw [HR.out.cell (by omega)]; rfl) (fun t ht => HR.out.frozen _)
        have HRZ := hid (Go.rowIs_setCells (List.replicate (j - m) (.int .i64 0)) m wr _ HR.out)
        have HSC := hid (setCells_roll (B := w.heap.size) (List.replicate (j - m) (.int .i64 0)) m wr HB.out)
        have hmj : (m : Int) < (j : Int) := by omega
        have hmj' : ¬ m = j := by omega
        have hmj2 : ¬ j = m := by omega
        go_wp2
        go_ret
        unfold Stays
        rw [HFL.out]
        refine ⟨rfl, by omega, fun k hk => ?_, HSC.out⟩
        rw [HRZ.out.cell (i := k) (by omega), if_neg (by omega), HLO.out k hk]
        rfl
end Go.Proofs.YtfmlpaplnkohpaaGreatDoor

namespace Go.Proofs.YtfmlpaplnkohpaaGreatDoor
open Go.RowKit

theorem stay_keep {xs : List Co} {o : Po} (hk : o.kind = 1 ∨ o.kind = 2) (n : Nat) : stayL (fun i => !keepF xs o i) n = rowsL xs o n := by
  rw [rowsL_F hk]
  unfold stayL
  congr 1
  funext i
  simp

theorem rd_head {w : World} {b n : Nat} {F : List Nat} (h1 : F.length ≤ n) (hn : n ≤ 1048576) (hb : b < w.heap.size) (h : ∀ i, i < F.length → w.cell? ⟨b, i, none⟩ = some (natF F i)) : Rd w w.heap.size (.slice (some ⟨b, 0, none⟩) F.length n) F.length (natF F) :=
  ⟨_, _, rfl, h1, by unfold maxLen; omega, fun _ => ⟨b, 0, rfl, hb, fun i hi => by rw [Nat.zero_add]; exact h i hi⟩⟩

set_option maxRecDepth 100000 in
set_option maxHeartbeats 4000000 in
theorem expl_keep (o : Po) (hk : o.kind = 1 ∨ o.kind = 2) (id : Int) (nm : ByteArray) (v u : Value) (xs : List Co) (n B : Nat) (w : World) (hv : RdCo w (· < B) v xs) (hB : B ≤ w.heap.size) (hcol : 0 ≤ o.col ∧ o.col < xs.length) (hl : xs.length ≤ 1048576) (hc : ∀ x ∈ xs, x.cells.length = n) (hn : rowsC xs = n) (hn4 : n ≤ 1048576) (hu : ∃ ua un uc, u = .slice ua un uc) :
    Calls Tryz.prog 115 #[.agg #[.int .i64 id, .string nm, v], o.val u] w (NewT w id nm (doL xs o)) := by
  have hk3 : o.kind ≠ 3 := by omega
  have hdo : doL xs o = selL xs (rowsL xs o n) := by rw [doL_rows hk3, hn]
  rw [hdo, ← stay_keep hk n]
  have hkeep := fun W (hW : Below w.heap.size w W) => (hv.keep fun p (hp : p.block < B) => hW.cell (p := p) (by omega) : RdCo W (· < B) v xs)
  have hRW := fun W (hW : Below w.heap.size w W) => expl_rows id nm v xs B W (hkeep W hW) (Nat.le_trans hB hW.size) (by omega)
  rw [hn] at hRW
  have HRW := hid hRW
  have HDEL := hid (fun b tb ob W (hW : Below w.heap.size w W) (hN : Nums W b (List.range n)) (hb : w.heap.size ≤ b) (htb : tb ≠ b) (hob : ob ≠ b) (ht : BoxN W tb 29 #[.int .i64 id, .string nm, v]) (ho : BoxN W ob 47 #[.int .i64 o.kind, .int .i64 o.col, .string o.text, u]) =>
    del_keep n b tb ob (fun i => !keepF xs o i) W hN hn4 (fun q hq W' hW' => by
      have h := expl_keep1 o hk id nm v u xs q tb ob B W' ((hkeep W hW).keep fun p (hp : p.block < B) => hW'.cell (p := p) (by have := hW.size; omega) (by omega)) (by have := hW.size; have := hW'.size; omega) hcol (fun x hx => by rw [hc x hx]; exact hq) ((hW'.block tb ht.lt htb).trans ht) ((hW'.block ob ho.lt hob).trans ho)
      exact h))
  have HPK := hid (fun y F W (hW : Below w.heap.size w W) (hF : ∀ r ∈ F, r < n) (hFl : F.length ≤ n) (hy : Rd W W.heap.size y F.length (natF F)) => expl_pick id nm v y xs F W.heap.size n W ((hkeep W hW).more fun b (hb : b < B) => by show b < W.heap.size; have := hW.size; omega) hy (Nat.le_refl _) hl hc hn4 hF (by omega))
  have HF1 : Hid (∀ r ∈ stayL (fun i => !keepF xs o i) n, r < n) := hid (fun r hr => List.mem_range.1 (List.mem_filter.1 hr).1)
  have HF2 := hid (stay_len (fun i => !keepF xs o i) n)
  generalize stayL (fun i => !keepF xs o i) n = F at *
  have hvs : ∃ va vc, v = .slice va xs.length vc := by
    obtain ⟨cv, ⟨a, c, e, -⟩, -⟩ := hv
    exact ⟨a, c, e⟩
  obtain ⟨va, vc, rfl⟩ := hvs
  obtain ⟨ua, un, uc, rfl⟩ := hu
  clear hv hkeep hRW hc hn hcol hk hk3 hdo
  obtain ⟨kind, col, text, cols⟩ := o
  simp only [Po.val] at *
  generalize xs.length = L at *
  have HX0 := hid (((BoxN.new w #[.int .i64 id, .string nm, .slice va L vc] 29).alloc (.cells #[.int .i64 kind, .int .i64 col, .string text, .slice ua un uc] 47)).alloc (.cells #[.int .i64 0, .string ⟨#[]⟩, .slice none 0 0] 29))
  have ho0 := (BoxN.new (w.alloc (.cells #[.int .i64 id, .string nm, .slice va L vc] 29)) #[.int .i64 kind, .int .i64 col, .string text, .slice ua un uc] 47).alloc (.cells #[.int .i64 0, .string ⟨#[]⟩, .slice none 0 0] 29)
  rw [World.size_alloc] at ho0
  have HO0 := hid ho0
  have HB0 := hid ((((Below.refl w.heap.size w).alloc (Nat.le_refl _) (.cells #[.int .i64 id, .string nm, .slice va L vc] 29)).alloc (by simp) (.cells #[.int .i64 kind, .int .i64 col, .string text, .slice ua un uc] 47)).alloc (by simp; omega) (.cells #[.int .i64 0, .string ⟨#[]⟩, .slice none 0 0] 29))
  have hy0 := BoxN.new ((w.alloc (.cells #[.int .i64 id, .string nm, .slice va L vc] 29)).alloc (.cells #[.int .i64 kind, .int .i64 col, .string text, .slice ua un uc] 47)) #[.int .i64 0, .string ⟨#[]⟩, .slice none 0 0] 29
  rw [World.size_alloc, World.size_alloc] at hy0
  have HY0 := hid hy0
  have hz0' : (((w.alloc (.cells #[.int .i64 id, .string nm, .slice va L vc] 29)).alloc (.cells #[.int .i64 kind, .int .i64 col, .string text, .slice ua un uc] 47)).alloc (.cells #[.int .i64 0, .string ⟨#[]⟩, .slice none 0 0] 29)).heap.size = w.heap.size + 3 := by simp
  clear hy0 ho0
  go_enter Tryz.func115, Tryz.ntmps115
  go_upto_region 1 with fail
  generalize ((w.alloc (.cells #[.int .i64 id, .string nm, .slice va L vc] 29)).alloc (.cells #[.int .i64 kind, .int .i64 col, .string text, .slice ua un uc] 47)).alloc (.cells #[.int .i64 0, .string ⟨#[]⟩, .slice none 0 0] 29) = W0 at *
  have HG := hid (fun W (hW : Below W0.heap.size W0 W) => (⟨(HX0.out.below hW HX0.out.lt).cell 0 rfl, (HX0.out.below hW HX0.out.lt).cell 1 rfl, (HX0.out.below hW HX0.out.lt).cell 2 rfl⟩ : W.cell? ⟨w.heap.size, 0, none⟩ = some (.int .i64 id) ∧ W.cell? ⟨w.heap.size, 1, none⟩ = some (.string nm) ∧ W.cell? ⟨w.heap.size, 2, none⟩ = some (.slice va L vc)))
  have HDR : Hid (Below W0.heap.size W0 W0.drew) := hid (Below.refl W0.heap.size W0).drew
  go_region_held3 (fun w' => w'.cell? ⟨w.heap.size, 0, none⟩ = some (.int .i64 id) ∧ w'.cell? ⟨w.heap.size, 1, none⟩ = some (.string nm) ∧ w'.cell? ⟨w.heap.size, 2, none⟩ = some (.slice va L vc))
    (first | exact HG.out _ (Below.refl _ _) | exact HG.out _ HDR.out | exact HG.out _ HC7.out | exact HG.out _ HC6.out | exact HG.out _ HC5.out | ((repeat rw [World.cell?_setCell_other _ _ _ _ (by intro e; injection e with e; omega)]); exact HG.out _ HC7.out) | go_keep)
    (first
      | (go_at_call 155; go_must ((with_reducible refine (HRW.out _ (HB0.out.trans (HDR.out.mono (by omega)))).mono ?_); rintro e w5 ⟨b5, rfl, hN5, hbb5, hb5⟩; have HC5 : Hid (Below W0.heap.size W0 w5) := hid (HDR.out.trans (hb5.mono HDR.out.size)); have HN5 := hid hN5; have hbb5' : W0.heap.size ≤ b5 := hbb5; clear hb5 hN5 hbb5))
      | (go_at_call 154; go_must ((with_reducible refine (HDEL.out b5 _ _ w5 (HB0.out.trans (HC5.out.mono (by omega))) HN5.out (by omega) (by omega) (by omega) (HX0.out.below HC5.out HX0.out.lt) (HO0.out.below HC5.out HO0.out.lt)).mono ?_); rintro e w6 ⟨rfl, hfl6, hcell6, hr6⟩; have HC6 : Hid (Below W0.heap.size W0 w6) := hid (HC5.out.trans (hr6.below hbb5' HC5.out.size)); have HCE6 := hid hcell6; have hz6 : b5 < w6.heap.size := Nat.lt_of_lt_of_le (World.rowIs.lt HN5.out) hr6.size; clear hr6 hcell6))
      | (go_at_call 118; go_must ((with_reducible refine (HPK.out _ F w6 (HB0.out.trans (HC6.out.mono (by omega))) HF1.out HF2.out (rd_head hfl6 hn4 hz6 HCE6.out)).mono ?_); rintro e w7 ⟨y, rfl, hco7, hb7⟩; have HC7 : Hid (Below W0.heap.size W0 w7) := hid (HC6.out.trans (hb7.mono HC6.out.size)); have HCO7 := hid hco7; have hzw7 := HC6.out.size; have hyy := HY0.out.below HC7.out HY0.out.lt; have y0 := hyy.cell 0 rfl; have y1 := hyy.cell 1 rfl; have y2 := hyy.cell 2 rfl; have f0 := hyy.frozen 0; have f1 := hyy.frozen 1; have f2 := hyy.frozen 2; obtain ⟨L7, hL7⟩ := hco7.owns; obtain ⟨ya, yc, rfl⟩ := own_slice hL7; clear hb7 hco7 hyy hL7)))
  all_goals
    clear HG
    go_wp2
    refine bodyPost_ret (v := .agg #[.int .i64 id, .string nm,   .slice ya (selL xs F).length yc]) (by simp [results, Tryz.results115, go_sem, y0, y1, y2]) rfl ⟨_, rfl, ?_, by have := HB0.out.trans (HC7.out.mono (by omega)); repeat' (first | (with_reducible exact Below.refl _ _) | (with_reducible assumption) | (with_reducible refine below_drewN ?_) | (with_reducible refine Below.alloc ?_ ?_ _) | (with_reducible refine Below.drew ?_) | (with_reducible refine Below.setCell ?_ ?_ _) | (with_reducible refine Below.trans ?_ (Below.mono (by with_reducible assumption) ?_)) | go_size)⟩
    exact (((HCO7.out.setCell (p := ⟨w.heap.size + 2, 0, none⟩) (by show w.heap.size + 2 < w6.heap.size; omega) _).setCell (p := ⟨w.heap.size + 2, 1, none⟩) (by show w.heap.size + 2 < w6.heap.size; omega) _).setCell (p := ⟨w.heap.size + 2, 2, none⟩) (by show w.heap.size + 2 < w6.heap.size; omega) _).lower (by omega)
end Go.Proofs.YtfmlpaplnkohpaaGreatDoor

namespace Go.Proofs.YtfmlpaplnkohpaaGreatDoor
open Go.RowKit

set_option maxRecDepth 100000 in
set_option maxHeartbeats 4000000 in
theorem expl_dist (o : Po) (hk : o.kind = 4) (id : Int) (nm : ByteArray) (v u : Value) (xs : List Co) (n B : Nat) (w : World) (hv : RdCo w (· < B) v xs) (hB : B ≤ w.heap.size) (hl : xs.length ≤ 1048576) (hc : ∀ x ∈ xs, x.cells.length = n) (hn : rowsC xs = n) (hn4 : n ≤ 4096) (hu : ∃ ua un uc, u = .slice ua un uc) :
    Calls Tryz.prog 117 #[.agg #[.int .i64 id, .string nm, v], o.val u] w (NewT w id nm (doL xs o)) := by
  have hk3 : o.kind ≠ 3 := by omega
  have hdo : doL xs o = selL xs (rowsL xs o n) := by rw [doL_rows hk3, hn]
  rw [hdo]
  have hkeep := fun W (hW : Below w.heap.size w W) => (hv.keep fun p (hp : p.block < B) => hW.cell (p := p) (by omega) : RdCo W (· < B) v xs)
  have HRW := hid (fun W (hW : Below w.heap.size w W) => expl_distinct o hk id nm v xs n B W (hkeep W hW) (Nat.le_trans hB hW.size) hc hn hn4 hl)
  have HPK := hid (fun y F W (hW : Below w.heap.size w W) (hF : ∀ r ∈ F, r < n) (hFl : F.length ≤ n) (hy : Rd W W.heap.size y F.length (natF F)) => expl_pick id nm v y xs F W.heap.size n W ((hkeep W hW).more fun b (hb : b < B) => by show b < W.heap.size; have := hW.size; omega) hy (Nat.le_refl _) hl hc (by omega) hF (by omega))
  have HF1 : Hid (∀ r ∈ rowsL xs o n, r < n) := hid (rowsL_ok xs o n).2
  have HF2 := hid (rowsL_ok xs o n).1
  generalize rowsL xs o n = F at *
  have hvs : ∃ va vc, v = .slice va xs.length vc := by
    obtain ⟨cv, ⟨a, c, e, -⟩, -⟩ := hv
    exact ⟨a, c, e⟩
  obtain ⟨va, vc, rfl⟩ := hvs
  obtain ⟨ua, un, uc, rfl⟩ := hu
  clear hv hkeep hc hn hk hk3 hdo
  obtain ⟨kind, col, text, cols⟩ := o
  simp only [Po.val] at *
  generalize xs.length = L at *
  have HX0 := hid (((BoxN.new w #[.int .i64 id, .string nm, .slice va L vc] 29).alloc (.cells #[.int .i64 kind, .int .i64 col, .string text, .slice ua un uc] 47)).alloc (.cells #[.int .i64 0, .string ⟨#[]⟩, .slice none 0 0] 29))
  have ho0 := (BoxN.new (w.alloc (.cells #[.int .i64 id, .string nm, .slice va L vc] 29)) #[.int .i64 kind, .int .i64 col, .string text, .slice ua un uc] 47).alloc (.cells #[.int .i64 0, .string ⟨#[]⟩, .slice none 0 0] 29)
  rw [World.size_alloc] at ho0
  have HO0 := hid ho0
  have HB0 := hid ((((Below.refl w.heap.size w).alloc (Nat.le_refl _) (.cells #[.int .i64 id, .string nm, .slice va L vc] 29)).alloc (by simp) (.cells #[.int .i64 kind, .int .i64 col, .string text, .slice ua un uc] 47)).alloc (by simp; omega) (.cells #[.int .i64 0, .string ⟨#[]⟩, .slice none 0 0] 29))
  have hy0 := BoxN.new ((w.alloc (.cells #[.int .i64 id, .string nm, .slice va L vc] 29)).alloc (.cells #[.int .i64 kind, .int .i64 col, .string text, .slice ua un uc] 47)) #[.int .i64 0, .string ⟨#[]⟩, .slice none 0 0] 29
  rw [World.size_alloc, World.size_alloc] at hy0
  have HY0 := hid hy0
  have hz0' : (((w.alloc (.cells #[.int .i64 id, .string nm, .slice va L vc] 29)).alloc (.cells #[.int .i64 kind, .int .i64 col, .string text, .slice ua un uc] 47)).alloc (.cells #[.int .i64 0, .string ⟨#[]⟩, .slice none 0 0] 29)).heap.size = w.heap.size + 3 := by simp
  clear hy0 ho0
  go_enter Tryz.func117, Tryz.ntmps117
  go_upto_region 1 with fail
  generalize ((w.alloc (.cells #[.int .i64 id, .string nm, .slice va L vc] 29)).alloc (.cells #[.int .i64 kind, .int .i64 col, .string text, .slice ua un uc] 47)).alloc (.cells #[.int .i64 0, .string ⟨#[]⟩, .slice none 0 0] 29) = W0 at *
  have HG := hid (fun W (hW : Below W0.heap.size W0 W) => (⟨(HX0.out.below hW HX0.out.lt).cell 0 rfl, (HX0.out.below hW HX0.out.lt).cell 1 rfl, (HX0.out.below hW HX0.out.lt).cell 2 rfl⟩ : W.cell? ⟨w.heap.size, 0, none⟩ = some (.int .i64 id) ∧ W.cell? ⟨w.heap.size, 1, none⟩ = some (.string nm) ∧ W.cell? ⟨w.heap.size, 2, none⟩ = some (.slice va L vc)))
  have HDR : Hid (Below W0.heap.size W0 W0.drew) := hid (Below.refl W0.heap.size W0).drew
  go_region_held3 (fun w' => w'.cell? ⟨w.heap.size, 0, none⟩ = some (.int .i64 id) ∧ w'.cell? ⟨w.heap.size, 1, none⟩ = some (.string nm) ∧ w'.cell? ⟨w.heap.size, 2, none⟩ = some (.slice va L vc))
    (first | exact HG.out _ (Below.refl _ _) | exact HG.out _ HDR.out | exact HG.out _ HC7.out | exact HG.out _ HC6.out | ((repeat rw [World.cell?_setCell_other _ _ _ _ (by intro e; injection e with e; omega)]); exact HG.out _ HC7.out) | go_keep)
    (first
      | (go_at_call 119; go_must ((with_reducible refine (HRW.out _ (HB0.out.trans (HDR.out.mono (by omega)))).mono ?_); rintro e w6 ⟨a6, c6, rfl, hrd6, hb6⟩; have HC6 : Hid (Below W0.heap.size W0 w6) := hid (HDR.out.trans (hb6.mono HDR.out.size)); have HRD6 := hid hrd6; clear hb6 hrd6))
      | (go_at_call 118; go_must ((with_reducible refine (HPK.out _ F w6 (HB0.out.trans (HC6.out.mono (by omega))) HF1.out HF2.out HRD6.out).mono ?_); rintro e w7 ⟨y, rfl, hco7, hb7⟩; have HC7 : Hid (Below W0.heap.size W0 w7) := hid (HC6.out.trans (hb7.mono HC6.out.size)); have HCO7 := hid hco7; have hzw7 := HC6.out.size; have hyy := HY0.out.below HC7.out HY0.out.lt; have y0 := hyy.cell 0 rfl; have y1 := hyy.cell 1 rfl; have y2 := hyy.cell 2 rfl; have f0 := hyy.frozen 0; have f1 := hyy.frozen 1; have f2 := hyy.frozen 2; obtain ⟨L7, hL7⟩ := hco7.owns; obtain ⟨ya, yc, rfl⟩ := own_slice hL7; clear hb7 hco7 hyy hL7)))
  all_goals
    clear HG
    go_wp2
    refine bodyPost_ret (v := .agg #[.int .i64 id, .string nm,   .slice ya (selL xs F).length yc]) (by simp [results, Tryz.results117, go_sem, y0, y1, y2]) rfl ⟨_, rfl, ?_, by have := HB0.out.trans (HC7.out.mono (by omega)); repeat' (first | (with_reducible exact Below.refl _ _) | (with_reducible assumption) | (with_reducible refine below_drewN ?_) | (with_reducible refine Below.alloc ?_ ?_ _) | (with_reducible refine Below.drew ?_) | (with_reducible refine Below.setCell ?_ ?_ _) | (with_reducible refine Below.trans ?_ (Below.mono (by with_reducible assumption) ?_)) | go_size)⟩
    exact (((HCO7.out.setCell (p := ⟨w.heap.size + 2, 0, none⟩) (by show w.heap.size + 2 < w6.heap.size; omega) _).setCell (p := ⟨w.heap.size + 2, 1, none⟩) (by show w.heap.size + 2 < w6.heap.size; omega) _).setCell (p := ⟨w.heap.size + 2, 2, none⟩) (by show w.heap.size + 2 < w6.heap.size; omega) _).lower (by omega)
end Go.Proofs.YtfmlpaplnkohpaaGreatDoor
