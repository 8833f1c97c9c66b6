/- Contract of copies.Top at valid tables, all hits asked for. Plain: a table that loses its first row loses at most one common row. -/
import Derived.Deep.Cut
import Derived.Test.YtfcccldofaleoaaGreatDoorCopLesbk
import Derived.Test.YtfcccldofaleoaaGreatDoorCopLesbq
import Derived.Test.YtfcccldofaleoaaGreatDoorCopLesbn
import Derived.Test.YtfcccldofaleoaaGreatDoorCopLesai
import Derived.Test.YtfcccldofaleoaaGreatDoorCopLesaj
namespace Go.Proofs.YtfcccldofaleoaaGreatDoor
open Go.RowKit

theorem info_match : (Tryz.prog.info? 78).map (fun i => (i.zero, i.size, i.bytes)) = some (some (.agg #[.int .i64 0, .slice none 0 0, .bool false, .slice none 0 0, .bool false, .slice none 0 0]), 6, 96) := by kernel_rfl

theorem rd32_grown {w W : World} {v : Value} {xs : List Nat} {ob : Option Nat} (h : Fr.Rd32 w v xs) (hg : w.grownBy W ob) (ho : ∀ k, ob = some k → Fr.Off k v) : Fr.Rd32 W v xs := by
  obtain ⟨a, c, rfl, h1, h2, h3, h4⟩ := h
  refine ⟨a, c, rfl, h1, h2, h3, fun hp => ?_⟩
  obtain ⟨b, o, rfl, hlt, hcell⟩ := h4 hp
  have hne : ob ≠ some b := fun e => ho b e ⟨b, o, none⟩ _ _ rfl hp rfl
  exact ⟨b, o, rfl, Nat.lt_of_lt_of_le hlt hg.size, fun i hi => (World.cell?_of_block (hg.block b hlt (Ne.symm hne))).trans (hcell i hi)⟩
/-- a match of the list so far, whose score can be read -/
structure GoodR (W : World) (row : Value) (m : Mh) : Prop where
  nu : Fr.Rd32 W (.slice m.nu.1 (Fr.dig m.p).length m.nu.2) (Fr.dig m.p)
  de : Fr.Rd32 W (.slice m.de.1 (Fr.dig m.q).length m.de.2) (Fr.dig m.q)
  onu : ∀ k, row.ownBlock = some k → Fr.Off k (.slice m.nu.1 (Fr.dig m.p).length m.nu.2)
  ode : ∀ k, row.ownBlock = some k → Fr.Off k (.slice m.de.1 (Fr.dig m.q).length m.de.2)
  sml : Fr.Sml m.p m.q
theorem GoodR.later {W W' : World} {row : Value} {m : Mh} (h : GoodR W row m) (hb : Below W.heap.size W W') : GoodR W' row m := ⟨h.nu.kept hb, h.de.kept hb, h.onu, h.ode, h.sml⟩
theorem GoodR.grown {W W' : World} {row : Value} {m : Mh} {p n cap : Nat} (h : GoodR W row m) (hg : W.grownBy W' row.ownBlock) (hat : row.ownBlock = some p ∨ p = W.heap.size) : GoodR W' (.slice (some ⟨p, 0, none⟩) n cap) m := by
  have key : ∀ v xs, Fr.Rd32 W v xs → (∀ k, row.ownBlock = some k → Fr.Off k v) → ∀ k, (Value.slice (some ⟨p, 0, none⟩) n cap).ownBlock = some k → Fr.Off k v := fun v xs h1 h2 k hk => by
    have e : p = k := by simpa [Value.ownBlock] using hk
    subst e
    rcases hat with hat | hat
    · exact h2 _ hat
    · exact h1.off (by omega)
  exact ⟨rd32_grown h.nu hg h.onu, rd32_grown h.de hg h.ode, key _ _ h.nu h.onu, key _ _ h.de h.ode, h.sml⟩
/-- a hit is the score of a table of the list -/
def HitOf (ts : List Ta) (qc : List Co) (m : Mh) : Prop :=
  ∃ j, j < ts.length ∧ m.id = (ts.getD j Ta.z).id ∧ m.p = commonL qc (ts.getD j Ta.z).cols / Nat.gcd (commonL qc (ts.getD j Ta.z).cols) (denS qc (ts.getD j Ta.z).cols) ∧ m.q = denS qc (ts.getD j Ta.z).cols / Nat.gcd (commonL qc (ts.getD j Ta.z).cols) (denS qc (ts.getD j Ta.z).cols) ∧ 0 < m.p
structure TopSt (w W : World) (v : Value) (ds : List Mq) (ts : List Ta) (qc : List Co) : Prop where
  bel : Below w.heap.size w W
  row : W.ownsRow w.heap.size 78 6 v ds.length (flatK 6 ds.length (encF encQ default ds))
  good : ∀ x ∈ ds, GoodR W v x.1
  hit : ∀ x ∈ ds, HitOf ts qc x.1
  start : ds = [] → v = .slice none 0 0
theorem TopSt.later {w W W' : World} {v : Value} {ds : List Mq} {ts : List Ta} {qc : List Co} (h : TopSt w W v ds ts qc) (hb : Below W.heap.size W W') : TopSt w W' v ds ts qc :=
  ⟨Fr.belowT h.bel hb, own_later h.row hb, fun x hx => (h.good x hx).later hb, h.hit, h.start⟩
theorem encF_push (ds : List Mq) (x : Mq) : flatK 6 (ds.length + 1) (encF encQ default (ds ++ [x])) = flatK 6 ds.length (encF encQ default ds) ++ encM x.1 := by
  refine (flat_push (fun i hi j hj => ?_) ?_).symm
  · simp [encF, List.getD, List.getElem?_append_left hi]
  · simp [encF, List.getD, List.range_succ, encQ, encM]
theorem TopSt.push {w W W' : World} {v : Value} {ds : List Mq} {ts : List Ta} {qc : List Co} (h : TopSt w W v ds ts qc) {x : Mq} {p m cap : Nat} (hm : m = ds.length + 1)
    (hown : W'.ownsRow w.heap.size 78 6 (.slice (some ⟨p, 0, none⟩) m cap) m (flatK 6 ds.length (encF encQ default ds) ++ encM x.1)) (hgr : W.grownBy W' v.ownBlock) (hat : v.ownBlock = some p ∨ p = W.heap.size)
    (hx : GoodR W v x.1) (hh : HitOf ts qc x.1) : TopSt w W' (.slice (some ⟨p, 0, none⟩) m cap) (ds ++ [x]) ts qc := by
  have hv : ∀ k, v.ownBlock = some k → w.heap.size ≤ k := fun k hk => (h.row.lt k hk).1
  have hs := h.bel.size
  refine ⟨h.bel.trans ⟨hgr.os, hgr.tape, hgr.output, hgr.size, fun k hk => hgr.block k (by omega) (fun e => by have := hv k e.symm; omega)⟩, ?_, ?_, ?_, fun e => by simp at e⟩
  · rw [List.length_append, List.length_singleton, encF_push, ← hm]
    exact hown
  · intro y hy
    rcases List.mem_append.1 hy with h1 | h1
    · exact (h.good y h1).grown hgr hat
    · rw [List.mem_singleton.1 h1]; exact hx.grown hgr hat
  · intro y hy
    rcases List.mem_append.1 hy with h1 | h1
    · exact h.hit y h1
    · rw [List.mem_singleton.1 h1]; exact hh

theorem lists_Permitted (v : Value) (ts : List Ta) (B : Nat) (w : World) (h : ListV ts) (hv : RdTa w (· < B) v ts) (hB : B ≤ w.heap.size) (hT : Tabs w) :
    Calls Tryz.prog 59 #[v] w (Ret w (.bool true)) := by
  have HV := hid (table_ValidList v ts B w h hv hB hT)
  obtain ⟨tv, ⟨a, c, rfl, -⟩, -⟩ := hv
  clear h hB hT
  generalize ts.length = L at *
  go_enter Tryz.func59, Tryz.ntmps59
  go_wp2_with fail
  with_reducible refine HV.out.mono ?_
  rintro e w1 ⟨rfl, hb1⟩
  have HB1 := hid hb1
  clear hb1
  go_wp2
  go_ret
  exact ⟨rfl, HB1.out⟩
theorem alignP_val {w : World} {xs ys : List Co} {e : Ending} {w' : World} (h : AlignP w xs ys e w') : Below w.heap.size w w' ∧ ∃ a n c b, e = .returned (.tuple #[.slice a n c, .bool b]) := by
  obtain ⟨hb, ⟨-, rfl⟩ | ⟨-, a, c, rfl, -⟩⟩ := h
  · exact ⟨hb, _, _, _, _, rfl⟩
  · exact ⟨hb, _, _, _, _, rfl⟩
/-- the hits of Top -/
def TopP (w : World) (ts : List Ta) (qc : List Co) (e : Ending) (w' : World) : Prop :=
  ∃ (ds : List Mq) (v : Value), e = .returned (.tuple #[v, .int .i64 0]) ∧ InK 6 w' (fun b => w.heap.size ≤ b ∧ b < w'.heap.size) v ds.length (encF encQ default ds) ∧ ds.length ≤ ts.length ∧ ds.Pairwise (fun a b => leM b.1 a.1) ∧ (∀ x ∈ ds, HitOf ts qc x.1 ∧ Fr.RdF w' x.1.fr false x.1.p x.1.q ∧ Fr.Sml x.1.p x.1.q) ∧ Below w.heap.size w w'

set_option maxRecDepth 100000 in
set_option maxHeartbeats 4000000 in
theorem copies_Top (ts : List Ta) (v qv : Value) (qt : Ta) (B : Nat) (w : World) (hl : ListV ts) (hv : RdTa w (· < B) v ts) (hq : TabV qt) (hqv : RdCo w (· < B) qv qt.cols) (hB : B ≤ w.heap.size) (hT : Tabs w) (ho : Fr.OneAt w)
    (hF0 : ∀ W, Calls Tryz.prog 61 #[.slice none 0 0, .int .i64 1024, .func (.func 62) #[] #[]] W fun e' w' => e' = .returned (.slice none 0 0) ∧ w' = W) :
    Calls Tryz.prog 30 #[v, .agg #[.int .i64 qt.id, .string qt.name, qv], .int .i64 1024] w (TopP w ts qt.cols) := by
  have HVL := hid (fun W (hW : Below w.heap.size w W) => lists_Permitted v ts B W hl (hv.keep fun p (hp : p.block < B) => hW.cell (p := p) (by omega)) (Nat.le_trans hB hW.size) (hT.below hW))
  have HVQ := hid (fun W (hW : Below w.heap.size w W) => table_Valid qt qv B W hq (hqv.keep fun p (hp : p.block < B) => hW.cell (p := p) (by omega)) (Nat.le_trans hB hW.size) (hT.below hW))
  have HOA := hid (fun W (hW : Below w.heap.size w W) => ho.below hW)
  have HF0 := hid hF0
  obtain ⟨tv, ⟨a, c, rfl, hc, hm, hr⟩, hkid⟩ := hv
  have HR := hid hr
  have HSC := hid (fun j (hj : j < ts.length) W (hW : Below w.heap.size w W) => copies_Score qt (ts.getD j Ta.z) qv (tv j) B W hq (hl.2.1 _ (getD_mem hj Ta.z)) (hqv.keep fun p (hp : p.block < B) => hW.cell (p := p) (by omega)) ((hkid j hj).keep fun p (hp : p.block < B) => hW.cell (p := p) (by omega)) (Nat.le_trans hB hW.size) (hT.below hW))
  have HAL := hid (fun j (hj : j < ts.length) W (hW : Below w.heap.size w W) => copies_Align qt.id (ts.getD j Ta.z).id qt.name (ts.getD j Ta.z).name qv (tv j) qt.cols (ts.getD j Ta.z).cols B W (hqv.keep fun p (hp : p.block < B) => hW.cell (p := p) (by omega)) ((hkid j hj).keep fun p (hp : p.block < B) => hW.cell (p := p) (by omega)) (Nat.le_trans hB hW.size) (Nat.le_trans hq.2.2.2.1 (by omega)) (Nat.le_trans (hl.2.1 _ (getD_mem hj Ta.z)).2.2.2.1 (by omega)))
  have HSM := hid (fun j (hj : j < ts.length) => (by
    have hd0 : 0 < denS qt.cols (ts.getD j Ta.z).cols := by unfold denS; omega
    have hra : rowsC qt.cols ≤ 4096 := rows_le hq
    have hrb : rowsC (ts.getD j Ta.z).cols ≤ 4096 := rows_le (hl.2.1 _ (getD_mem hj Ta.z))
    have hcl := commonL_le_rows qt.cols (ts.getD j Ta.z).cols
    exact Fr.sml_of hd0 (by omega) (by unfold denS; omega) : Fr.Sml (commonL qt.cols (ts.getD j Ta.z).cols / Nat.gcd (commonL qt.cols (ts.getD j Ta.z).cols) (denS qt.cols (ts.getD j Ta.z).cols)) (denS qt.cols (ts.getD j Ta.z).cols / Nat.gcd (commonL qt.cols (ts.getD j Ta.z).cols) (denS qt.cols (ts.getD j Ta.z).cols))))
  have HKV := hid (fun j (hj : j < ts.length) => (by
    obtain ⟨cv, ⟨ka, kc, e, -⟩, -⟩ := hkid j hj
    exact ⟨ka, _, kc, e⟩ : ∃ ka kn kc, tv j = .slice ka kn kc))
  have htl : ts.length ≤ 1024 := hl.1
  obtain ⟨i0, hi, hz0, hz1, hz2⟩ := info_parts info_match
  clear hl hr hkid hq hqv hT ho hF0
  obtain ⟨qi, qn, qc⟩ := qt
  simp only at *
  generalize hxl : ts.length = L at *
  have HXL := hid hxl
  clear hxl
  unfold maxLen at hm
  have HXQ := hid (BoxN.new w #[.int .i64 qi, .string qn, qv] 24)
  have HB0 := hid ((Below.refl w.heap.size w).alloc (Nat.le_refl _) (.cells #[.int .i64 qi, .string qn, qv] 24))
  have x0 := HXQ.out.cell 0 rfl
  have x1 := HXQ.out.cell 1 rfl
  have x2 := HXQ.out.cell 2 rfl
  go_enter Tryz.func30, Tryz.ntmps30
  generalize hLA : Code.loop _ = LA
  go_wp2_with fail
  generalize w.alloc (.cells #[.int .i64 qi, .string qn, qv] 24) = W0 at *
  with_reducible refine (HVL.out _ HB0.out).mono ?_
  rintro e w1 ⟨rfl, hb1⟩
  have HX1 := hid (HXQ.out.below hb1 HXQ.out.lt)
  have HB1 := hid (Fr.belowT HB0.out hb1)
  clear x0 x1 x2 hb1 HXQ HB0
  have x0 := HX1.out.cell 0 rfl
  have x1 := HX1.out.cell 1 rfl
  have x2 := HX1.out.cell 2 rfl
  go_wp2_with fail
  with_reducible refine (HVQ.out _ HB1.out).mono ?_
  rintro e w2 ⟨rfl, hb2⟩
  have HX2 := hid (HX1.out.below hb2 HX1.out.lt)
  have HB2 := hid (Fr.belowT HB1.out hb2)
  clear x0 x1 x2 hb2 HX1 HB1
  go_wp2_with fail
  subst hLA
  have hzq : w.heap.size < w2.heap.size := HX2.out.lt
  go_loopg [8, 33] L (fun N v i wr => ∃ (q : Nat) (ds : List Mq), i = .int .i64 (q : Int) ∧ q + N = L ∧ ds.length ≤ q ∧ Hid (TopSt w2 wr v ds ts qc))
  case atStart => exact ⟨0, [], rfl, by omega, by simp, hid ⟨Below.refl _ _, World.ownsRow_nil _ _ _ _, by simp, by simp, fun _ => rfl⟩⟩
  case round =>
    obtain ⟨q, ds, rfl, hq, hdq, HST⟩ := hrel
    have hwr := HST.out.bel.size
    obtain ⟨va, vc, rfl⟩ := own_slice HST.out.row
    have HBW := hid (Fr.belowT HB2.out HST.out.bel)
    by_cases hp : 0 < gk
    · have hqL : q < L := by omega
      obtain ⟨b, o, rfl, hb, hcell⟩ := HR.out (by omega)
      have hb' : b < B := hb
      have k0 : wr.cell? ⟨b, o + q * 3, none⟩ = some (.int .i64 (ts.getD q Ta.z).id) := (HBW.out.cell (p := ⟨b, o + q * 3, none⟩) (by show b < w.heap.size; omega)).trans (hcell q hqL 0 (by omega))
      have k1 : wr.cell? ⟨b, o + q * 3 + 1, none⟩ = some (.string (ts.getD q Ta.z).name) := (HBW.out.cell (p := ⟨b, o + q * 3 + 1, none⟩) (by show b < w.heap.size; omega)).trans (hcell q hqL 1 (by omega))
      have k2 : wr.cell? ⟨b, o + q * 3 + 2, none⟩ = some (tv q) := (HBW.out.cell (p := ⟨b, o + q * 3 + 2, none⟩) (by show b < w.heap.size; omega)).trans (hcell q hqL 2 (by omega))
      have HSQ := hid (HSC.out q hqL)
      have HAQ := hid (HAL.out q hqL)
      have HSM1 := hid (HSM.out q hqL)
      have HIT : Hid (∀ al nu de, 0 < commonL qc (ts.getD q Ta.z).cols / Nat.gcd (commonL qc (ts.getD q Ta.z).cols) (denS qc (ts.getD q Ta.z).cols) → HitOf ts qc ⟨(ts.getD q Ta.z).id, al, nu, de, commonL qc (ts.getD q Ta.z).cols / Nat.gcd (commonL qc (ts.getD q Ta.z).cols) (denS qc (ts.getD q Ta.z).cols), denS qc (ts.getD q Ta.z).cols / Nat.gcd (commonL qc (ts.getD q Ta.z).cols) (denS qc (ts.getD q Ta.z).cols)⟩) :=
        hid (fun al nu de h => ⟨q, by rw [HXL.out]; exact hqL, rfl, rfl, rfl, h⟩)
      obtain ⟨ka, kn, kc, hkv⟩ := HKV.out q hqL
      rw [hkv] at k2 HSQ HAQ
      clear hcell hkv
      generalize commonL qc (ts.getD q Ta.z).cols / Nat.gcd (commonL qc (ts.getD q Ta.z).cols) (denS qc (ts.getD q Ta.z).cols) = P at *
      generalize denS qc (ts.getD q Ta.z).cols / Nat.gcd (commonL qc (ts.getD q Ta.z).cols) (denS qc (ts.getD q Ta.z).cols) = Q at *
      generalize (ts.getD q Ta.z).id = ti at *
      generalize (ts.getD q Ta.z).name = tn at *
      generalize (ts.getD q Ta.z).cols = tc at *
      have HST3 := hid (HST.out.later ((Below.refl wr.heap.size wr).alloc (Nat.le_refl _) (.cells #[.int .i64 ti, .string tn, .slice ka kn kc] 24)))
      have HT3 := hid (BoxN.new wr #[.int .i64 ti, .string tn, .slice ka kn kc] 24)
      have hx3 := HX2.out.below HST3.out.bel HX2.out.lt
      have x0 := hx3.cell 0 rfl
      have x1 := hx3.cell 1 rfl
      have x2 := hx3.cell 2 rfl
      go_wp2_with fail
      generalize wr.alloc (.cells #[.int .i64 ti, .string tn, .slice ka kn kc] 24) = W3 at *
      clear k0 k1 k2 x0 x1 x2
      with_reducible refine (HSQ.out W3 (Fr.belowT HB2.out HST3.out.bel)).mono ?_
      rintro e w4 ⟨a4, c4, d4, e4, rfl, hN, hb4⟩
      have HF5 := hid (Fr.FrB.new (hN.rd false))
      have HB5 := hid (hb4.trans ((Below.refl w4.heap.size w4).alloc (Nat.le_refl _) (.cells #[.bool false, .slice a4 (Fr.dig P).length c4, .bool false, .slice d4 (Fr.dig Q).length e4] 49) |>.mono hb4.size))
      have HST5 := hid (HST3.out.later HB5.out)
      have HT5 := hid (HT3.out.below HB5.out HT3.out.lt)
      have HN5 := hid (hN.kept ((Below.refl w4.heap.size w4).alloc (Nat.le_refl _) (.cells #[.bool false, .slice a4 (Fr.dig P).length c4, .bool false, .slice d4 (Fr.dig Q).length e4] 49)))
      have hz3 : wr.heap.size < W3.heap.size := HT3.out.lt
      clear hN hb4
      go_wp2_with fail
      generalize w4.alloc (.cells #[.bool false, .slice a4 (Fr.dig P).length c4, .bool false, .slice d4 (Fr.dig Q).length e4] 49) = W5 at *
      have HRF5 := hid HF5.out.2
      with_reducible refine (Fr.lists_Positive _ P Q W5 HRF5.out HSM1.out (HOA.out _ (Fr.belowT HB2.out HST5.out.bel))).mono ?_
      rintro e w6 ⟨rfl, hb6⟩
      have HST6 := hid (HST5.out.later hb6)
      have HT6 := hid (HT5.out.below hb6 HT5.out.lt)
      have HF6 := hid (HF5.out.below hb6)
      have HN6 := hid (HN5.out.kept hb6)
      clear hb6
      by_cases hP : 0 < P
      · have hPd : decide (0 < P) = true := decide_eq_true hP
        have hx6 := HX2.out.below HST6.out.bel HX2.out.lt
        have x0 := hx6.cell 0 rfl
        have x1 := hx6.cell 1 rfl
        have x2 := hx6.cell 2 rfl
        have y0 := HT6.out.cell 0 rfl
        have y1 := HT6.out.cell 1 rfl
        have y2 := HT6.out.cell 2 rfl
        clear hx6
        go_wp2_with fail
        with_reducible refine (HAQ.out w6 (Fr.belowT HB2.out HST6.out.bel)).mono ?_
        intro e w7 hal
        obtain ⟨hb7, al, an, ac, ab, rfl⟩ := alignP_val hal
        have HST7 := hid (HST6.out.later hb7)
        have HT7 := hid (HT6.out.below hb7 HT6.out.lt)
        have HF7 := hid (HF6.out.below hb7)
        have HN7 := hid (HN6.out.kept hb7)
        clear hal hb7 x0 x1 x2 y0 y1 y2
        have y0 := HT7.out.cell 0 rfl
        have z0 := HF7.out.1.cell 0 rfl
        have z1 := HF7.out.1.cell 1 rfl
        have z2 := HF7.out.1.cell 2 rfl
        have z3 := HF7.out.1.cell 3 rfl
        have HOW := hid (HST7.out.row.alloc (.cells #[.int .i64 ti, .slice al an ac, .bool false, .slice a4 (Fr.dig P).length c4, .bool false, .slice d4 (Fr.dig Q).length e4] 78))
        have HNB := hid (BoxN.new w7 #[.int .i64 ti, .slice al an ac, .bool false, .slice a4 (Fr.dig P).length c4, .bool false, .slice d4 (Fr.dig Q).length e4] 78)
        have HST8 := hid (HST7.out.later ((Below.refl w7.heap.size w7).alloc (Nat.le_refl _) (.cells #[.int .i64 ti, .slice al an ac, .bool false, .slice a4 (Fr.dig P).length c4, .bool false, .slice d4 (Fr.dig Q).length e4] 78)))
        have HN8 := hid (HN7.out.kept ((Below.refl w7.heap.size w7).alloc (Nat.le_refl _) (.cells #[.int .i64 ti, .slice al an ac, .bool false, .slice a4 (Fr.dig P).length c4, .bool false, .slice d4 (Fr.dig Q).length e4] 78)))
        have hz7 := HST7.out.bel.size
        have HOL : Hid (∀ k, (Value.slice va ds.length vc).ownBlock = some k → k < W3.heap.size) := hid (fun k hk => Nat.lt_trans (HST.out.row.lt k hk).2 hz3)
        go_wp2_with (at_builtin; refine wpList_append_form _ rfl _ _ 72 72 rfl w2.heap.size 78 78 i0 (.agg #[.int .i64 0, .slice none 0 0, .bool false, .slice none 0 0, .bool false, .slice none 0 0]) 6 96 Tryz.underlying72 Tryz.underlying72 hi hz0 hz1 hz2 rfl (by decide) (.slice va ds.length vc) ds.length _ rfl HOW.out (some ⟨_, 0, none⟩) 1 1 [.int .i64 ti, .slice al an ac, .bool false, .slice a4 (Fr.dig P).length c4, .bool false, .slice d4 (Fr.dig Q).length e4] rfl rfl (fun _ => ⟨_, rfl, World.news_of_block HNB.out⟩) (by intro u hu; simp at hu; rcases hu with rfl | rfl | rfl | rfl | rfl | rfl <;> rfl) (by omega) (by unfold maxLen; omega) (by omega) (by simp; omega) ?_; intro p9 cap9 w9 hown9 hg9 hat9 hlt9; have HG9 := hid hg9; have HOWN9 := hid hown9; have HAT9 := hid hat9; clear hown9 hg9 hat9)
        have HGR : Hid (GoodR (w7.alloc (.cells #[.int .i64 ti, .slice al an ac, .bool false, .slice a4 (Fr.dig P).length c4, .bool false, .slice d4 (Fr.dig Q).length e4] 78)) (.slice va ds.length vc) ⟨ti, (al, an, ac), (a4, c4), (d4, e4), P, Q⟩) := hid ⟨HN8.out.1, HN8.out.2.1, fun k hk => HN8.out.2.2.1 k (HOL.out k hk), fun k hk => HN8.out.2.2.2 k (HOL.out k hk), HSM1.out⟩
        obtain ⟨xq, hxq⟩ : ∃ xq : Mq, xq.1 = ⟨ti, (al, an, ac), (a4, c4), (d4, e4), P, Q⟩ := ⟨⟨_, HSM1.out.pos⟩, rfl⟩
        have HST9 := hid (HST8.out.push (x := xq) rfl (by rw [hxq]; exact HOWN9.out) HG9.out HAT9.out (by rw [hxq]; exact HGR.out) (by rw [hxq]; exact HIT.out _ _ _ hP))
        clear y0 z0 z1 z2 z3
        go_wp2
        go_roundg (gk - 1)
        case rel => exact ⟨q + 1, ds ++ [xq], by go_num, by omega, by rw [List.length_append, List.length_singleton]; omega, HST9⟩
        case measure => omega
      · have hPd : decide (0 < P) = false := decide_eq_false hP
        go_wp2
        go_roundg (gk - 1)
        case rel => exact ⟨q + 1, ds, by go_num, by omega, by omega, HST6⟩
        case measure => omega
    · obtain rfl : gk = 0 := by omega
      have hqe : q = L := by omega
      have HBE := HBW
      by_cases hd0 : ds = []
      · subst hd0
        have hv0 := HST.out.start rfl
        obtain ⟨rfl, -, rfl⟩ := Value.slice.inj hv0
        have HFIN : Hid (∃ ds : List Mq, InK 6 wr (fun b => w.heap.size ≤ b ∧ b < wr.heap.size) (.slice none 0 0) ds.length (encF encQ default ds) ∧ ds.length ≤ ts.length ∧ ds.Pairwise (fun a b => leM b.1 a.1) ∧ (∀ x ∈ ds, HitOf ts qc x.1 ∧ Fr.RdF wr x.1.fr false x.1.p x.1.q ∧ Fr.Sml x.1.p x.1.q) ∧ Below w.heap.size w wr) :=
          hid ⟨[], ⟨none, 0, rfl, Nat.le_refl _, by unfold maxLen; omega, fun h => absurd h (by simp)⟩, by simp, List.Pairwise.nil, by simp, HBW.out⟩
        clear hv0 HST
        go_wp2_with fail
        with_reducible refine (HF0.out _).mono ?_
        rintro e w8 ⟨rfl, rfl⟩
        go_wp2
        go_ret2
        obtain ⟨ds, h1, h2, h3, h4, h5⟩ := HFIN.out
        exact ⟨ds, _, rfl, h1, h2, h3, h4, h5⟩
      · have hpos : 0 < ds.length := List.length_pos_iff.2 hd0
        obtain ⟨n, hn⟩ : ∃ n, n = ds.length := ⟨_, rfl⟩
        have hrow := HST.out.row
        rw [← hn] at hrow hpos hdq
        rcases hrow.2 with ⟨e1, -⟩ | ⟨g, cap1, cur, e1, hbg, hheap, -⟩
        · have := (Value.slice.inj e1).2.1
          omega
        · obtain ⟨rfl, -, rfl⟩ := Value.slice.inj e1
          have HFI : Hid (Calls Tryz.prog 61 #[.slice (some ⟨g, 0, none⟩) n vc, .int .i64 1024, .func (.func 62) #[] #[]] wr fun e' w' => e' = .returned (.slice (some ⟨g, 0, none⟩) n vc) ∧ ∃ ds' : List Mq, ds'.Perm ds ∧ ds'.Pairwise (fun a b => leM b.1 a.1) ∧ w'.ownsRow w2.heap.size 78 6 (.slice (some ⟨g, 0, none⟩) n vc) n (flatK 6 n (encF encQ default ds')) ∧ Bar wr g w') := hid (lists_First ds w2.heap.size g n vc 1024 wr hn.symm hpos (by omega) (by omega) (by omega) hrow (fun x hx => by
            have h := HST.out.good x hx
            exact ⟨h.nu, h.de, h.onu g rfl, h.ode g rfl, h.sml⟩) (fun W hW => HOA.out W (HBW.out.trans (hW.below (by have := HBW.out.size; omega) (by omega)))))
          have HGM : Hid (∀ x ∈ ds, HitOf ts qc x.1 ∧ GoodM wr g x.1) := hid (fun x hx => by
            have h := HST.out.good x hx
            exact ⟨HST.out.hit x hx, ⟨h.nu, h.de, h.onu g rfl, h.ode g rfl, h.sml⟩⟩)
          have hgz : g < wr.heap.size := (Array.getElem?_eq_some_iff.1 hheap).1
          have HDL := hid hn
          rw [← hn]
          clear hrow hheap e1 HST hn
          go_wp2_with fail
          with_reducible refine HFI.out.mono ?_
          rintro e w8 ⟨rfl, ds', h1, h2, h3, h4⟩
          have HFIN : Hid (TopP w ts qc (.returned (.tuple #[.slice (some ⟨g, 0, none⟩) n vc, .int .i64 0])) w8) := hid (by
            have hl : ds'.length = n := by rw [h1.length_eq, HDL.out]
            refine ⟨ds', _, rfl, ?_, by rw [hl, HXL.out]; omega, h2, fun x hx => ?_, HBW.out.trans (h4.below (by have := HBW.out.size; omega) (by omega))⟩
            · rw [hl]
              refine (inK_of_owns h3).more fun b hb => ?_
              have e : g = b := by simpa [Value.ownBlock] using hb
              subst e
              exact ⟨by omega, by have := h4.size; omega⟩
            · obtain ⟨a1, a2⟩ := HGM.out x (h1.mem_iff.1 hx)
              exact ⟨a1, a2.rd h4, a2.sml⟩)
          clear h1 h2 h3 h4
          go_wp2
          go_ret2
          exact HFIN.out

end Go.Proofs.YtfcccldofaleoaaGreatDoor

namespace Go.Proofs.YtfcccldofaleoaaGreatDoor
open Go.RowKit

def cutC (c : Co) : Co := ⟨c.name, c.cells.drop 1⟩
def cutL (xs : List Co) : List Co := xs.map cutC
theorem cutL_len (xs : List Co) : (cutL xs).length = xs.length := by simp [cutL]
theorem cutL_snoc {xs : List Co} {q : Nat} (h : q < xs.length) : cutL (xs.take (q + 1)) = cutL (xs.take q) ++ [cutC (xs.getD q Co.z)] := by
  rw [take_snocC h]; simp [cutL]
theorem namesL_cut (xs : List Co) : namesL (cutL xs) = namesL xs := by simp [namesL, cutL, cutC, Function.comp_def]
theorem cut_getD (xs : List Co) (k : Nat) : (cutL xs).getD k Co.z = cutC (xs.getD k Co.z) := by
  unfold cutL
  simp only [List.getD, List.getElem?_map]
  cases xs[k]? <;> rfl
theorem cellAt_cut (xs : List Co) (k i : Nat) : cellAt (cutL xs) k i = cellAt xs k (i + 1) := by
  unfold cellAt
  rw [cut_getD]
  simp [cutC, List.getD, List.getElem?_drop, Nat.add_comm]
theorem rowsOf_cut (xs : List Co) (al : List Nat) (n : Nat) : rowsOf xs al (n + 1) = rowAt xs al 0 :: rowsOf (cutL xs) al n := by
  unfold rowsOf
  rw [List.range_succ_eq_map, List.map_cons, List.map_map]
  congr 1
  refine List.map_congr_left fun i _ => ?_
  simp only [Function.comp, rowAt]
  exact List.map_congr_left fun k _ => (cellAt_cut xs k i).symm
theorem common_cut (qs xs : List Co) (h : 0 < rowsN xs) : commonL qs (cutL xs) ≤ commonL qs xs ∧ commonL qs xs ≤ commonL qs (cutL xs) + 1 := by
  have e1 : alignL qs (cutL xs) = alignL qs xs := by simp [alignL, idxN, namesL_cut, funext_iff]
  have e2 : Aligns qs (cutL xs) ↔ Aligns qs xs := by simp [Aligns, namesL_cut]
  have e3 : rowsN xs = rowsN (cutL xs) + 1 := by
    unfold rowsN at *
    rw [cut_getD]
    show _ = ((xs.getD 0 Co.z).cells.drop 1).length + 1
    rw [List.length_drop]
    omega
  unfold commonL
  by_cases ha : Aligns qs xs
  · rw [if_pos ha, if_pos (e2.2 ha), e1, e3, rowsOf_cut]
    exact comL_less _ _ _
  · rw [if_neg ha, if_neg (fun h => ha (e2.1 h))]
    omega
theorem cut_valid {t : Ta} (h : TabV t) : TabV ⟨t.id, t.name, cutL t.cols⟩ := by
  obtain ⟨h1, h2, h3, h4, n, hn, h5⟩ := h
  refine ⟨h1, h2, h3, by rw [cutL_len]; exact h4, n - 1, by omega, fun x hx => ?_⟩
  obtain ⟨y, hy, rfl⟩ := List.mem_map.1 hx
  obtain ⟨a, b, c⟩ := h5 y hy
  exact ⟨a, by simp [cutC, b], fun d hd => c d (List.mem_of_mem_drop hd)⟩
theorem rdCl_cut {w : World} {S : Nat → Prop} {b o n c : Nat} {cs : List Cl} (h : RdCl w S (.slice (some ⟨b, o, none⟩) n c) cs) (hp : 0 < n) : RdCl w S (.slice (some ⟨b, o + 2, none⟩) (n - 1) (c - 1)) (cs.drop 1) := by
  obtain ⟨a, c', e, h1, h2, h3⟩ := h
  obtain ⟨rfl, rfl, rfl⟩ := Value.slice.inj e
  refine ⟨_, _, by rw [List.length_drop], by rw [List.length_drop]; omega, by omega, fun hq => ?_⟩
  obtain ⟨b', o', e', hS, hc⟩ := h3 hp
  cases e'
  refine ⟨b, o + 2, rfl, hS, fun i hi j hj => ?_⟩
  rw [List.length_drop] at hi
  have h4 := hc (i + 1) (by omega) j hj
  have e5 : o + (i + 1) * 2 + j = o + 2 + i * 2 + j := by omega
  rw [e5] at h4
  rw [h4]
  simp [clF, List.getD, List.getElem?_drop, Nat.add_comm]
/-- a slice of cells without its first one -/
def cutV : Value → Value
  | .slice (some a) n c => .slice (if c - 1 = 0 then some ⟨a.block, a.off, none⟩ else some ⟨a.block, a.off + 2, none⟩) (n - 1) (c - 1)
  | v => v
theorem rdCl_cut0 {w : World} {S : Nat → Prop} {b o n c : Nat} {cs : List Cl} (h : RdCl w S (.slice (some ⟨b, o, none⟩) n c) cs) (hp : 0 < n) : RdCl w S (cutV (.slice (some ⟨b, o, none⟩) n c)) (cs.drop 1) := by
  by_cases hc : c - 1 = 0
  · obtain ⟨a, c', e, h1, h2, h3⟩ := h
    obtain ⟨rfl, rfl, rfl⟩ := Value.slice.inj e
    refine ⟨_, _, by rw [List.length_drop]; rfl, by rw [List.length_drop]; omega, by omega, fun hq => ?_⟩
    rw [List.length_drop] at hq
    omega
  · have e : cutV (.slice (some ⟨b, o, none⟩) n c) = .slice (some ⟨b, o + 2, none⟩) (n - 1) (c - 1) := by simp [cutV, hc]
    rw [e]
    exact rdCl_cut h hp
theorem cut_read {w : World} {S S' : Nat → Prop} {v : Value} {tx : List Co} {cv : Nat → Value} (hp : ∀ k, k < tx.length → 0 < (tx.getD k Co.z).cells.length) (hk : ∀ k, k < tx.length → RdCl w S (cv k) (tx.getD k Co.z).cells)
    (hv : InK 2 w S' v tx.length (coF (cutL tx) fun k => cutV (cv k))) (hS : ∀ b, S b → S' b) : RdCo w S' v (cutL tx) := by
  refine ⟨fun k => cutV (cv k), by rw [cutL_len]; exact hv, fun k hq => ?_⟩
  rw [cutL_len] at hq
  have h := hk k hq
  have hpos := hp k hq
  rw [cut_getD]
  obtain ⟨a, c, e, h1, h2, h3⟩ := h
  obtain ⟨b, o, rfl, h4, h5⟩ := h3 hpos
  have h6 := hk k hq
  rw [e] at h6
  show RdCl w S' (cutV (cv k)) ((tx.getD k Co.z).cells.drop 1)
  rw [e]
  exact (rdCl_cut0 h6 hpos).more hS
theorem cut_push (tx : List Co) (cv : Nat → Value) (p : Nat) : flatK 2 (p + 1) (coF (cutL tx) fun k => cutV (cv k)) = flatK 2 p (coF (cutL tx) fun k => cutV (cv k)) ++ [.string (tx.getD p Co.z).name, cutV (cv p)] := by
  rw [flatK_succ]
  have h := cut_getD tx p
  have e : ((cutL tx).getD p Co.z).name = (tx.getD p Co.z).name := by rw [h]; rfl
  congr 1
  show (List.range 2).map (two (.string ((cutL tx).getD p Co.z).name) (cutV (cv p))) = _
  rw [e]
  rfl
theorem pos_rows {qs xs : List Co} (h : 0 < commonL qs xs / Nat.gcd (commonL qs xs) (denS qs xs)) : 0 < rowsN xs ∧ 0 < commonL qs xs := by
  have h0 : 0 < commonL qs xs := by
    rcases Nat.eq_zero_or_pos (commonL qs xs) with e | e
    · rw [e] at h; simp at h
    · exact e
  have h1 := commonL_le_rows xs qs
  rw [commonL_comm xs qs] at h1
  exact ⟨Nat.lt_of_lt_of_le h0 h1, h0⟩
end Go.Proofs.YtfcccldofaleoaaGreatDoor
