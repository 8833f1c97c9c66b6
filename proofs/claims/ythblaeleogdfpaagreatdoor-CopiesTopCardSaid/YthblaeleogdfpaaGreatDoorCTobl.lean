/- Contracts of table.ValidList and lists.Permitted at any list of tables. lists.First at no matches. Contract of copies.Top at any tables: exactly which matches, in which order. -/
import Derived.Test.YthblaeleogdfpaaGreatDoorCTobk
import Derived.Deep.Cut
import Derived.Shelf.SlSortCmp.NoneTotal
import Derived.Test.YthblaeleogdfpaaGreatDoorCTobf
set_option linter.unusedVariables false
set_option linter.unusedSimpArgs false
namespace Go.Proofs.YthblaeleogdfpaaGreatDoor
open Go.RowKit
theorem listV_ofB {ts : List Ta} (h : listB ts = true) : ListV ts := by
 unfold listB at h
 rw [Bool.and_eq_true, Bool.and_eq_true, decide_eq_true_eq] at h
 exact ⟨h.1, fun t ht => tabV_ofB (List.all_eq_true.1 h.2.1 t ht), listV_up h.2.2⟩
set_option maxRecDepth 100000 in
set_option maxHeartbeats 1000000 in
theorem every_tablesB (v : Value) (ts : List Ta) (B : Nat) (w : World) (hs : SzL ts) (hv : RdTa w (· < B) v ts) (hB : B ≤ w.heap.size) (hT : Tabs w) :
  Calls Tryz.prog 176 #[v, .func (.func 53) #[] #[]] w (Ret w (.bool (ts.all tabB))) := by
 obtain ⟨tv, ⟨a, k, rfl, hk, hm, hrd⟩, hco⟩ := hv
 have HRD := hid hrd
 have HCF : Hid (∀ q, q < ts.length → ∃ ca ck, tv q = .slice ca (ts.getD q Ta.z).cols.length ck) := hid (fun q hq => by
  obtain ⟨cv, ⟨ca, ck, e, -⟩, -⟩ := hco q hq
  exact ⟨ca, ck, e⟩)
 have HV := hid (fun q (hq : q < ts.length) W (hW : Below w.heap.size w W) => table_ValidB (ts.getD q Ta.z) (tv q) B W (hs _ (getD_mem hq Ta.z)) ((hco q hq).keep fun p (hp : p.block < B) => hW.cell (p := p) (by omega)) (by have := hW.size; omega) (hT.below hW))
 have HANO := hid (fun q (hq : q < ts.length) (h : tabB (ts.getD q Ta.z) = false) => all_no hq h)
 have HAUP := hid (fun q (hq : q < ts.length) hp (h : tabB (ts.getD q Ta.z) = true) => all_up hq hp h)
 have HAEN := hid (fun h => all_end (p := tabB) (l := ts) (n := ts.length) rfl h)
 clear hrd hco hs hT
 generalize hxl : ts.length = L at *
 have HXL := hid hxl
 clear hxl
 unfold maxLen at hm
 go_enter Tryz.func176, Tryz.ntmps176
 go_wp2_with fail
 go_loopg [9] L (fun N i wr => ∃ q : Nat, q + N = L ∧ i = .int .i64 (q : Int) ∧ Hid (Below w.heap.size w wr) ∧ Hid ((ts.take q).all tabB = true))
 case atStart => exact ⟨0, by omega, rfl, hid (Below.refl _ _), hid rfl⟩
 case round =>
  obtain ⟨q, hq, rfl, HB, HALL⟩ := hrel
  by_cases hp : 0 < gk
  ·obtain ⟨b, o, rfl, hb, hcell⟩ := HRD.out (by omega)
   have hbw : b < w.heap.size := by have : b < B := hb; omega
   have hwz := HB.out.size
   obtain ⟨ca, ck, hcq⟩ := HCF.out q (by omega)
   have k0 : wr.cell? ⟨b, o + q * 3, none⟩ = some (.int .i64 (ts.getD q Ta.z).id) := (HB.out.cell (p := ⟨b, o + q * 3, none⟩) hbw).trans (hcell q (by omega) 0 (by omega))
   have k1 : wr.cell? ⟨b, o + q * 3 + 1, none⟩ = some (.string (ts.getD q Ta.z).name) := (HB.out.cell (p := ⟨b, o + q * 3 + 1, none⟩) hbw).trans (hcell q (by omega) 1 (by omega))
   have k2 : wr.cell? ⟨b, o + q * 3 + 2, none⟩ = some (tv q) := (HB.out.cell (p := ⟨b, o + q * 3 + 2, none⟩) hbw).trans (hcell q (by omega) 2 (by omega))
   have HVQ := hid (fun W (hW : Below w.heap.size w W) => HV.out q (by omega) W hW)
   have HANQ := hid (HANO.out q (by omega))
   have HAUQ := hid (HAUP.out q (by omega) HALL.out)
   rw [hcq] at k2 HVQ
   clear hcell hcq
   generalize ts.getD q Ta.z = t at *
   generalize tabB t = bt at *
   obtain ⟨id, nm, xs⟩ := t
   simp only at k0 k1 k2 HVQ
   generalize xs.length = l at *
   have HB1 := hid (HB.out.alloc hwz (.cells #[.int .i64 id, .string nm, .slice ca l ck] 24))
   go_wp2_with fail
   with_reducible refine (HVQ.out _ HB1.out).mono ?_
   clear k0 k1 k2
   rintro e w6 ⟨rfl, hb6⟩
   have HB6 := hid (HB1.out.trans (hb6.mono HB1.out.size))
   clear hb6
   cases bt with
   | false =>
    go_wp2
    go_ret
    exact ⟨by rw [HANQ.out (by simp)]; rfl, HB6.out⟩
   | true =>
    go_wp2_with fail
    go_roundg (gk - 1)
    case rel => exact ⟨q + 1, by omega, by go_num, hid HB6.out, hid (HAUQ.out (by simp))⟩
    case measure => omega
  ·obtain rfl : q = L := by omega
   go_wp2
   go_ret
   exact ⟨by rw [HAEN.out HALL.out]; rfl, HB.out⟩
set_option maxRecDepth 100000 in
set_option maxHeartbeats 2000000 in
theorem table_ValidListB (v : Value) (ts : List Ta) (B : Nat) (w : World) (hs : SzL ts) (hv : RdTa w (· < B) v ts) (hB : B ≤ w.heap.size) (hT : Tabs w) :
  Calls Tryz.prog 125 #[v] w (Ret w (.bool (listB ts))) := by
 have HE := hid (fun W (hW : Below w.heap.size w W) => every_tablesB v ts B W hs (hv.keep fun p (hp : p.block < B) => hW.cell (p := p) (by omega)) (by have := hW.size; omega) (hT.below hW))
 have HLB : Hid (listB ts = (decide (ts.length ≤ 1024) && (ts.all tabB && upB ts))) := hid rfl
 have HUN := hid (fun (h : upB ts = true) => (upB_iff ts).1 h)
 have HUY := hid (fun h => (upB_iff ts).2 h)
 obtain ⟨tv, ⟨a, k, rfl, hk, hm, hrd⟩, hco⟩ := hv
 have HRD := hid hrd
 clear hrd hco hs hT
 generalize hxl : ts.length = L at *
 have HXL := hid hxl
 clear hxl
 generalize listB ts = R at *
 generalize upB ts = up at *
 generalize ts.all tabB = al at *
 unfold maxLen at hm
 go_enter Tryz.func125, Tryz.ntmps125
 go_wp2_with fail
 go_loopg [3] L (fun N i wr => ∃ q : Nat, q + N = L ∧ i = .int .i64 ((q : Int) + 1) ∧ Hid (∀ j, j < q → (ts.getD j Ta.z).id < (ts.getD (j + 1) Ta.z).id) ∧ ∃ m, wr = w.drewN m)
 case atStart => exact ⟨0, by omega, rfl, hid (fun j h => absurd h (by omega)), 0, rfl⟩
 case round =>
  obtain ⟨q, hq, rfl, HALL, m, rfl⟩ := hrel
  by_cases hp : q + 1 < L
  ·obtain ⟨b, o, rfl, hb, hcell⟩ := HRD.out (by omega)
   have k0 : w.cell? ⟨b, o + q * 3, none⟩ = some (.int .i64 (ts.getD q Ta.z).id) := hcell q (by omega) 0 (by omega)
   have k1 : w.cell? ⟨b, o + (q + 1) * 3, none⟩ = some (.int .i64 (ts.getD (q + 1) Ta.z).id) := hcell (q + 1) (by omega) 0 (by omega)
   have HA2 : Hid ((ts.getD q Ta.z).id < (ts.getD (q + 1) Ta.z).id → ∀ j, j < q + 1 → (ts.getD j Ta.z).id < (ts.getD (j + 1) Ta.z).id) := hid (fun h j hj => by
    rcases Nat.lt_or_ge j q with h3 | h3
    ·exact HALL.out j h3
    ·obtain rfl : j = q := by omega
     exact h)
   have HUQ := hid (fun h => HUN.out h q hp)
   clear hcell
   generalize (ts.getD q Ta.z).id = i1 at *
   generalize (ts.getD (q + 1) Ta.z).id = i2 at *
   have hw1 : IntKind.i64.wrap ((q : Int) + 1 - 1) = (q : Int) := (IntWalk.i64_in _ (by omega)).trans (by omega)
   have hq1 : ((q : Int) + 1).toNat = q + 1 := by omega
   have hq2 : (0 : Int) ≤ (q : Int) + 1 := by omega
   have hq3 : (q : Int) + 1 < (L : Int) := by omega
   have hq4 : (q : Int) < (L : Int) := by omega
   have hw2 : IntKind.i64.wrap ((q : Int) + 1 + 1) = (q : Int) + 1 + 1 := IntWalk.i64_in _ (by omega)
   by_cases hlt : i1 < i2
   ·have hd : decide (i2 ≤ i1) = false := decide_eq_false (by omega)
    have HA3 := hid (HA2.out hlt)
    go_wp2_with fail
    go_quiet (fail)
    clear k0 k1 hq1
    go_wp2_with fail
    go_roundg (gk - 1)
    case rel => exact ⟨q + 1, by omega, by go_num, HA3, _, rfl⟩
    case measure => omega
   ·have hd : decide (i2 ≤ i1) = true := decide_eq_true (by omega)
    have hR : R = false := by
     rw [HLB.out]
     cases up with
     | false => rw [Bool.and_false, Bool.and_false]
     | true => exact absurd (HUQ.out rfl) hlt
    subst hR
    go_wp2_with fail
    go_quiet (fail)
    clear k0 k1 hq1
    go_wp2
    go_ret
    exact ⟨rfl, below_drewN (below_drewN (Below.refl _ _))⟩
  ·have hup : up = true := HUY.out (fun j hj => HALL.out j (by omega))
   subst hup
   have hd2 : ¬ (q : Int) + 1 < (L : Int) := by omega
   by_cases hL : L ≤ 1024
   ·have hd : decide ((L : Int) ≤ 1024) = true := decide_eq_true (by omega)
    go_wp2_with fail
    with_reducible refine (HE.out _ (below_drewN (Below.refl _ _))).mono ?_
    rintro e w1 ⟨rfl, hb1⟩
    have HB1 : Hid (Below w.heap.size w w1) := hid ((below_drewN (Below.refl _ _)).trans hb1)
    clear hb1
    go_wp2
    go_ret
    exact ⟨by rw [HLB.out, decide_eq_true hL]; simp, HB1.out⟩
   ·have hd : decide ((L : Int) ≤ 1024) = false := decide_eq_false (by omega)
    have hR : R = false := by rw [HLB.out, decide_eq_false hL, Bool.false_and]
    subst hR
    go_wp2
    go_ret
    exact ⟨rfl, below_drewN (Below.refl _ _)⟩
theorem lists_PermittedB (v : Value) (ts : List Ta) (B : Nat) (w : World) (hs : SzL ts) (hv : RdTa w (· < B) v ts) (hB : B ≤ w.heap.size) (hT : Tabs w) :
  Calls Tryz.prog 74 #[v] w (Ret w (.bool (listB ts))) := by
 have HV := hid (table_ValidListB v ts B w hs hv hB hT)
 obtain ⟨tv, ⟨a, c, rfl, -⟩, -⟩ := hv
 clear hs hB hT
 generalize ts.length = L at *
 go_enter Tryz.func74, Tryz.ntmps74
 go_wp2_with fail
 with_reducible refine HV.out.mono ?_
 rintro e w1 ⟨rfl, hb1⟩
 have HB1 := hid hb1
 clear hb1
 go_wp2
 go_ret
 exact ⟨rfl, HB1.out⟩
end Go.Proofs.YthblaeleogdfpaaGreatDoor

namespace Go.Proofs.YthblaeleogdfpaaGreatDoor
open Go.RowKit Go.Shelf
theorem lists_First0 (k : Nat) (w : World) (hk2 : k ≤ 1048576) :
  Calls Tryz.prog 89 #[.slice none 0 0, .int .i64 (k : Int), .func (.func 90) #[] #[]] w fun e' w' => e' = .returned (.slice none 0 0) ∧ w' = w := by
 have HS := hid (show Calls Tryz.prog 137 #[.slice none 0 0, .func (.func 90) #[] #[]] w (fun e w' => e = .returned (.tuple #[]) ∧ w' = w) from AnyF.slices_SortFunc_none { Tryz.sortMatch with } none 0 _ w)
 have hmin : ¬ ((k : Int) < 0) := by omega
 go_enter Tryz.func89, Tryz.ntmps89
 go_wp2_with fail
 with_reducible refine HS.out.mono ?_
 rintro e w1 ⟨rfl, rfl⟩
 go_wp2
 go_ret
 have h3 : (min (k : Int) 0).toNat = 0 := by omega
 exact ⟨by show Ending.returned (.slice none (min (k : Int) 0).toNat 0) = _; rw [h3], rfl⟩
end Go.Proofs.YthblaeleogdfpaaGreatDoor

namespace Go.Proofs.YthblaeleogdfpaaGreatDoor
open Go.RowKit
theorem rd32_grown {w W : World} {v : Value} {xs : List Nat} {ob : Option Nat} (h : Fr.Rd32 w v xs) (hg : w.grownBy W ob) (ho : ∀ k, ob = some k → Fr.Off k v) : Fr.Rd32 W v xs := by
 obtain ⟨a, c, rfl, h1, h2, h3, h4⟩ := h
 refine ⟨a, c, rfl, h1, h2, h3, fun hp => ?_⟩
 obtain ⟨b, o, rfl, hlt, hcell⟩ := h4 hp
 have hne : ob ≠ some b := fun e => ho b e ⟨b, o, none⟩ _ _ rfl hp rfl
 exact ⟨b, o, rfl, Nat.lt_of_lt_of_le hlt hg.size, fun i hi => (World.cell?_of_block (hg.block b hlt (Ne.symm hne))).trans (hcell i hi)⟩
structure GoodR (W : World) (row : Value) (m : Mh) : Prop where
  nu : Fr.Rd32 W (.slice m.nu.1 (Fr.dig m.p).length m.nu.2) (Fr.dig m.p)
  de : Fr.Rd32 W (.slice m.de.1 (Fr.dig m.q).length m.de.2) (Fr.dig m.q)
  onu : ∀ k, row.ownBlock = some k → Fr.Off k (.slice m.nu.1 (Fr.dig m.p).length m.nu.2)
  ode : ∀ k, row.ownBlock = some k → Fr.Off k (.slice m.de.1 (Fr.dig m.q).length m.de.2)
  sml : Fr.Sml m.p m.q
theorem GoodR.later {W W' : World} {row : Value} {m : Mh} (h : GoodR W row m) (hb : Below W.heap.size W W') : GoodR W' row m := ⟨h.nu.kept hb, h.de.kept hb, h.onu, h.ode, h.sml⟩
theorem GoodR.grown {W W' : World} {row : Value} {m : Mh} {p n cap : Nat} (h : GoodR W row m) (hg : W.grownBy W' row.ownBlock) (hat : row.ownBlock = some p ∨ p = W.heap.size) : GoodR W' (.slice (some ⟨p, 0, none⟩) n cap) m := by
 have key : ∀ v xs, Fr.Rd32 W v xs → (∀ k, row.ownBlock = some k → Fr.Off k v) → ∀ k, (Value.slice (some ⟨p, 0, none⟩) n cap).ownBlock = some k → Fr.Off k v := fun v xs h1 h2 k hk => by
  have e : p = k := by simpa [Value.ownBlock] using hk
  subst e
  rcases hat with hat | hat
  ·exact h2 _ hat
  ·exact h1.off (by omega)
 exact ⟨rd32_grown h.nu hg h.onu, rd32_grown h.de hg h.ode, key _ _ h.nu h.onu, key _ _ h.de h.ode, h.sml⟩
structure GoodA (W : World) (row : Value) (ts : List Ta) (qc : List Co) (m : Mh) : Prop where
  fp : m.p = tpP qc (tabI ts m.id)
  fq : m.q = tpQ qc (tabI ts m.id)
  al : InK 1 W (fun b => b < W.heap.size ∧ row.ownBlock ≠ some b) (.slice m.al.1 m.al.2.1 m.al.2.2) (alignL qc (tabI ts m.id).cols).length (fun j _ => .int .i64 (((alignL qc (tabI ts m.id).cols).getD j 0 : Nat) : Int))
theorem GoodA.later {W W' : World} {row : Value} {ts : List Ta} {qc : List Co} {m : Mh} (h : GoodA W row ts qc m) (hb : Below W.heap.size W W') : GoodA W' row ts qc m :=
 ⟨h.fp, h.fq, (h.al.keep fun p hp => hb.cell (p := p) hp.1).more fun b hl => ⟨Nat.lt_of_lt_of_le hl.1 hb.size, hl.2⟩⟩
theorem GoodA.grown {W W' : World} {row : Value} {ts : List Ta} {qc : List Co} {m : Mh} {p n cap : Nat} (h : GoodA W row ts qc m) (hg : W.grownBy W' row.ownBlock) (hat : row.ownBlock = some p ∨ p = W.heap.size) : GoodA W' (.slice (some ⟨p, 0, none⟩) n cap) ts qc m :=
 ⟨h.fp, h.fq, (h.al.keep fun q hq => World.cell?_of_block (hg.block q.block hq.1 (Ne.symm hq.2))).more fun b hl => ⟨Nat.lt_of_lt_of_le hl.1 hg.size, fun e => by
  have e2 : p = b := by simpa [Value.ownBlock] using e
  subst e2
  rcases hat with h1 | h1
  ·exact hl.2 h1
  ·have := hl.1; omega⟩⟩
structure TopSy (w W : World) (v : Value) (ds : List Mq) (ts : List Ta) (qc : List Co) (q : Nat) : Prop where
  bel : Below w.heap.size w W
  row : W.ownsRow w.heap.size 135 6 v ds.length (FL ds)
  good : ∀ x ∈ ds, GoodR W v x.1 ∧ GoodA W v ts qc x.1
  ids : ds.map (fun x => x.1.id) = idsP (ts.take q) qc
  start : ds = [] → v = .slice none 0 0
theorem TopSy.later {w W W' : World} {v : Value} {ds : List Mq} {ts : List Ta} {qc : List Co} {q : Nat} (h : TopSy w W v ds ts qc q) (hb : Below W.heap.size W W') : TopSy w W' v ds ts qc q :=
 ⟨h.bel.trans (hb.mono h.bel.size), own_later h.row hb, fun x hx => ⟨(h.good x hx).1.later hb, (h.good x hx).2.later hb⟩, h.ids, h.start⟩
theorem TopSy.push {w W W' : World} {v : Value} {ds : List Mq} {ts : List Ta} {qc : List Co} {q : Nat} (h : TopSy w W v ds ts qc q) {x : Mq} {p m cap : Nat} (hm : m = ds.length + 1)
  (hown : W'.ownsRow w.heap.size 135 6 (.slice (some ⟨p, 0, none⟩) m cap) m (FL ds ++ encM x.1)) (hgr : W.grownBy W' v.ownBlock) (hat : v.ownBlock = some p ∨ p = W.heap.size)
  (hx : GoodR W v x.1) (ha : GoodA W v ts qc x.1) (hi : idsP (ts.take (q + 1)) qc = idsP (ts.take q) qc ++ [x.1.id]) : TopSy w W' (.slice (some ⟨p, 0, none⟩) m cap) (ds ++ [x]) ts qc (q + 1) := by
 have hv : ∀ k, v.ownBlock = some k → w.heap.size ≤ k := fun k hk => (h.row.lt k hk).1
 have hs := h.bel.size
 refine ⟨h.bel.trans ⟨hgr.os, hgr.tape, hgr.output, hgr.size, fun k hk => hgr.block k (by omega) (fun e => by have := hv k e.symm; omega)⟩, ?_, ?_, ?_, fun e => by simp at e⟩
 ·rw [List.length_append, List.length_singleton, FL_append, FL_one, ← hm]
  exact hown
 ·intro y hy
  rcases List.mem_append.1 hy with h1 | h1
  ·exact ⟨(h.good y h1).1.grown hgr hat, (h.good y h1).2.grown hgr hat⟩
  ·rw [List.mem_singleton.1 h1]; exact ⟨hx.grown hgr hat, ha.grown hgr hat⟩
 ·rw [List.map_append, h.ids, hi]; rfl
theorem TopSy.skip {w W : World} {v : Value} {ds : List Mq} {ts : List Ta} {qc : List Co} {q : Nat} (h : TopSy w W v ds ts qc q) (hi : idsP (ts.take (q + 1)) qc = idsP (ts.take q) qc) : TopSy w W v ds ts qc (q + 1) := ⟨h.bel, h.row, h.good, by rw [hi]; exact h.ids, h.start⟩
def topE (ts : List Ta) (qt : Ta) (k : Int) : Int := if k < 0 ∨ 1024 < k then 2 else if listB ts = true ∧ tabB qt = true then 0 else 1
def TopX (w : World) (ts : List Ta) (qt : Ta) (k : Int) (e : Ending) (w' : World) : Prop :=
  ∃ (a : Option Addr) (n c : Nat) (I : List Int), e = .returned (.tuple #[.slice a n c, .int .i64 (topE ts qt k)]) ∧ Below w.heap.size w w' ∧ RdM w' ts qt.cols (.slice a n c) I ∧
    (topE ts qt k = 0 → ∃ J : List Int, J.Perm (idsP ts qt.cols) ∧ J.Pairwise (befS ts qt.cols) ∧ I = J.take k.toNat) ∧ (topE ts qt k ≠ 0 → I = [])
theorem topX_err {w w' : World} {ts : List Ta} {qt : Ta} {k E : Int} (hE : topE ts qt k = E) (h0 : E ≠ 0) (hb : Below w.heap.size w w') : TopX w ts qt k (.returned (.tuple #[.slice none 0 0, .int .i64 E])) w' :=
 ⟨none, 0, 0, [], by rw [hE], hb, RdM.none _ _ _, fun h => absurd (hE.symm.trans h) h0, fun _ => rfl⟩
theorem align_own {w : World} {xs ys : List Co} {e : Ending} {w' : World} (h : AlignP w xs ys e w') (ha : Aligns xs ys) : Below w.heap.size w w' ∧ ∃ a c, e = .returned (.tuple #[.slice a xs.length c, .bool true]) ∧ InK 1 w' (fun b => w.heap.size ≤ b ∧ b < w'.heap.size) (.slice a xs.length c) (alignL xs ys).length (fun j _ => .int .i64 (((alignL xs ys).getD j 0 : Nat) : Int)) := by
 obtain ⟨hb, ⟨hn, -⟩ | ⟨-, a, c, rfl, hown⟩⟩ := h
 ·exact absurd ha hn
 ·refine ⟨hb, a, c, rfl, ?_⟩
  rw [alignL_len]
  exact inK_ints_own hown (alignL_len _ _)
theorem aligns_of_pos {xs : List Co} {t : Ta} (h : 0 < tpP xs t) : Aligns xs t.cols := by
 refine Classical.byContradiction fun hn => ?_
 unfold tpP at h
 rw [show commonL xs t.cols = 0 from if_neg hn, Nat.zero_div] at h
 omega
theorem befS_of {ts : List Ta} {qc : List Co} {W : World} {row : Value} {x y : Mh} (hx : GoodA W row ts qc x) (hy : GoodA W row ts qc y) (h : leM y x ∧ (leM x y → x.id ≤ y.id)) : befS ts qc x.id y.id := by
 unfold leM at h
 rw [hx.fp, hx.fq, hy.fp, hy.fq] at h
 exact h
set_option maxRecDepth 100000 in
set_option maxHeartbeats 8000000 in
theorem copies_TopX (ts : List Ta) (v qv : Value) (qt : Ta) (k : Int) (B : Nat) (w : World) (hs : SzL ts) (hsq : SzT qt) (hv : RdTa w (· < B) v ts) (hqv : RdCo w (· < B) qv qt.cols) (hB : B ≤ w.heap.size) (hT : Tabs w) (hP : Pow w) (ho : Fr.OneAt w) :
  Calls Tryz.prog 41 #[v, .agg #[.int .i64 qt.id, .string qt.name, qv], .int .i64 k] w (TopX w ts qt k) := by
 have HVL := hid (fun W (hW : Below w.heap.size w W) => lists_PermittedB v ts B W hs (hv.keep fun p (hp : p.block < B) => hW.cell (p := p) (by omega)) (Nat.le_trans hB hW.size) (hT.below hW))
 have HVQ := hid (fun W (hW : Below w.heap.size w W) => table_ValidB qt qv B W hsq (hqv.keep fun p (hp : p.block < B) => hW.cell (p := p) (by omega)) (Nat.le_trans hB hW.size) (hT.below hW))
 have HOA := hid (fun W (hW : Below w.heap.size w W) => ho.below hW)
 have HTE := hid (show topE ts qt k = if k < 0 ∨ 1024 < k then 2 else if listB ts = true ∧ tabB qt = true then 0 else 1 from rfl)
 have HER := hid (fun E W (hE : topE ts qt k = E) (h0 : E ≠ 0) (hb : Below w.heap.size w W) => topX_err hE h0 hb)
 have HLV := hid (fun (h : listB ts = true) => listV_ofB h)
 have HQV := hid (fun (h : tabB qt = true) => tabV_ofB h)
 obtain ⟨tv, ⟨a, c, rfl, hc, hm, hr⟩, hkid⟩ := hv
 have HR := hid hr
 have HSC := hid (fun (hl : ListV ts) (hq : TabV qt) j (hj : j < ts.length) W (hW : Below w.heap.size w W) => copies_Score qt (ts.getD j Ta.z) qv (tv j) B W hq (hl.2.1 _ (getD_mem hj Ta.z)) (hqv.keep fun p (hp : p.block < B) => hW.cell (p := p) (by omega)) ((hkid j hj).keep fun p (hp : p.block < B) => hW.cell (p := p) (by omega)) (Nat.le_trans hB hW.size) (hT.below hW) (hP.below hW (Nat.le_refl _)))
 have HAL := hid (fun (hl : ListV ts) (hq : TabV qt) j (hj : j < ts.length) W (hW : Below w.heap.size w W) => copies_Align qt.id (ts.getD j Ta.z).id qt.name (ts.getD j Ta.z).name qv (tv j) qt.cols (ts.getD j Ta.z).cols B W (hqv.keep fun p (hp : p.block < B) => hW.cell (p := p) (by omega)) ((hkid j hj).keep fun p (hp : p.block < B) => hW.cell (p := p) (by omega)) (Nat.le_trans hB hW.size) (Nat.le_trans hq.2.2.2.1 (by omega)) (Nat.le_trans (hl.2.1 _ (getD_mem hj Ta.z)).2.2.2.1 (by omega)))
 have HSM := hid (fun (hl : ListV ts) (hq : TabV qt) j (hj : j < ts.length) => (by
  have hd0 : 0 < denS qt.cols (ts.getD j Ta.z).cols := by unfold denS; omega
  have hra : rowsC qt.cols ≤ 4096 := rows_le hq
  have hrb : rowsC (ts.getD j Ta.z).cols ≤ 4096 := rows_le (hl.2.1 _ (getD_mem hj Ta.z))
  have hcl := commonL_le_rows qt.cols (ts.getD j Ta.z).cols
  exact Fr.sml_of hd0 (by omega) (by unfold denS; omega) : Fr.Sml (tpP qt.cols (ts.getD j Ta.z)) (tpQ qt.cols (ts.getD j Ta.z))))
 have HKV := hid (fun j (hj : j < ts.length) => (by
  obtain ⟨cv, ⟨ka, kc, e, -⟩, -⟩ := hkid j hj
  exact ⟨ka, _, kc, e⟩ : ∃ ka kn kc, tv j = .slice ka kn kc))
 have HTI := hid (fun (hl : ListV ts) j (hj : j < ts.length) => tabI_at hl.2.2 hj)
 have HIS := hid (fun j (hj : j < ts.length) => idsP_succ (qc := qt.cols) hj)
 have HAP := hid (fun j => aligns_of_pos (xs := qt.cols) (t := ts.getD j Ta.z))
 have HIE : Hid (idsP (ts.take ts.length) qt.cols = idsP ts qt.cols) := hid (by rw [List.take_length])
 obtain ⟨i0, hi, hz0, hz1, hz2⟩ := info_parts info_match
 have HTX : Hid (∀ (W : World) (a : Option Addr) (n c : Nat) (I : List Int), Below w.heap.size w W → RdM W ts qt.cols (.slice a n c) I → topE ts qt k = 0 → ∀ J : List Int, J.Perm (idsP ts qt.cols) → J.Pairwise (befS ts qt.cols) → I = J.take k.toNat → TopX w ts qt k (.returned (.tuple #[.slice a n c, .int .i64 0])) W) := hid (fun W a n c I h1 h2 h3 J h4 h5 h6 => ⟨a, n, c, I, by rw [h3], h1, h2, fun _ => ⟨J, h4, h5, h6⟩, fun h => absurd h3 h⟩)
 clear hr hkid hs hsq hqv hT hP ho
 generalize TopX w ts qt k = TX at *
 generalize topE ts qt k = E at *
 generalize listB ts = gl at *
 generalize tabB qt = gq at *
 obtain ⟨qi, qn, qc⟩ := qt
 simp only at *
 generalize hxl : ts.length = L at *
 have HXL := hid hxl
 clear hxl
 unfold maxLen at hm
 have HXQ := hid (BoxN.new w #[.int .i64 qi, .string qn, qv] 24)
 have HB0 := hid ((Below.refl w.heap.size w).alloc (Nat.le_refl _) (.cells #[.int .i64 qi, .string qn, qv] 24))
 by_cases hk0 : k < 0
 ·have hE : E = 2 := by rw [HTE.out, if_pos (.inl hk0)]
  have hd : decide (k < 0) = true := decide_eq_true hk0
  go_enter Tryz.func41, Tryz.ntmps41
  generalize hLA : Code.loop _ = LA
  clear hLA
  go_wp2
  (try go_ret2)
  exact HER.out _ _ hE (by omega) HB0.out
 have hdk0 : decide (k < 0) = false := decide_eq_false hk0
 by_cases hk1 : 1024 < k
 ·have hE : E = 2 := by rw [HTE.out, if_pos (.inr hk1)]
  have hd : decide ((1024 : Int) < k) = true := decide_eq_true hk1
  go_enter Tryz.func41, Tryz.ntmps41
  generalize hLA : Code.loop _ = LA
  clear hLA
  go_wp2
  (try go_ret2)
  exact HER.out _ _ hE (by omega) HB0.out
 have hdk1 : decide ((1024 : Int) < k) = false := decide_eq_false hk1
 obtain ⟨kk, rfl⟩ : ∃ m : Nat, k = (m : Int) := ⟨k.toNat, by omega⟩
 have hkk : kk ≤ 1024 := by omega
 have HTE2 := hid (show E = if gl = true ∧ gq = true then 0 else 1 by rw [HTE.out, if_neg (by omega)])
 clear hk0 hk1 HTE
 have x0 := HXQ.out.cell 0 rfl
 have x1 := HXQ.out.cell 1 rfl
 have x2 := HXQ.out.cell 2 rfl
 go_enter Tryz.func41, Tryz.ntmps41
 generalize hLA : Code.loop _ = LA
 go_wp2_with fail
 generalize w.alloc (.cells #[.int .i64 qi, .string qn, qv] 24) = W0 at *
 with_reducible refine (HVL.out _ HB0.out).mono ?_
 rintro e w1 ⟨rfl, hb1⟩
 have HX1 := hid (HXQ.out.below hb1 HXQ.out.lt)
 have HB1 := hid (Fr.belowT HB0.out hb1)
 clear x0 x1 x2 hb1 HXQ HB0
 cases gl with
 | false =>
  have hE : E = 1 := by rw [HTE2.out, if_neg (by simp)]
  clear hLA
  go_wp2
  (try go_ret2)
  exact HER.out _ _ hE (by omega) HB1.out
 | true =>
 have x0 := HX1.out.cell 0 rfl
 have x1 := HX1.out.cell 1 rfl
 have x2 := HX1.out.cell 2 rfl
 go_wp2_with fail
 with_reducible refine (HVQ.out _ HB1.out).mono ?_
 rintro e w2 ⟨rfl, hb2⟩
 have HX2 := hid (HX1.out.below hb2 HX1.out.lt)
 have HB2 := hid (Fr.belowT HB1.out hb2)
 clear x0 x1 x2 hb2 HX1 HB1
 cases gq with
 | false =>
  have hE : E = 1 := by rw [HTE2.out, if_neg (by simp)]
  clear hLA
  go_wp2
  (try go_ret2)
  exact HER.out _ _ hE (by omega) HB2.out
 | true =>
 have HE0 : Hid (E = 0) := hid (by rw [HTE2.out, if_pos (by simp)])
 have HLV1 := hid (HLV.out (by simp))
 have HQV1 := hid (HQV.out (by simp))
 have htl : L ≤ 1024 := by rw [← HXL.out]; exact HLV1.out.1
 clear HLV HQV HTE2 HER
 go_wp2_with fail
 subst hLA
 have hzq : w.heap.size < w2.heap.size := HX2.out.lt
 go_loopg [8, 33] L (fun N v i wr => ∃ (q : Nat) (ds : List Mq), i = .int .i64 (q : Int) ∧ q + N = L ∧ ds.length ≤ q ∧ Hid (TopSy w2 wr v ds ts qc q))
 case atStart => exact ⟨0, [], rfl, by omega, by simp, hid ⟨Below.refl _ _, World.ownsRow_nil _ _ _ _, by simp, by simp [idsP], fun _ => rfl⟩⟩
 case round =>
  obtain ⟨q, ds, rfl, hq, hdq, HST⟩ := hrel
  have hwr := HST.out.bel.size
  obtain ⟨va, vc, rfl⟩ := own_slice HST.out.row
  have HBW := hid (Fr.belowT HB2.out HST.out.bel)
  by_cases hp : 0 < gk
  ·have hqL : q < L := by omega
   obtain ⟨b, o, rfl, hb, hcell⟩ := HR.out (by omega)
   have hb' : b < B := hb
   have k0 : wr.cell? ⟨b, o + q * 3, none⟩ = some (.int .i64 (ts.getD q Ta.z).id) := (HBW.out.cell (p := ⟨b, o + q * 3, none⟩) (by show b < w.heap.size; omega)).trans (hcell q hqL 0 (by omega))
   have k1 : wr.cell? ⟨b, o + q * 3 + 1, none⟩ = some (.string (ts.getD q Ta.z).name) := (HBW.out.cell (p := ⟨b, o + q * 3 + 1, none⟩) (by show b < w.heap.size; omega)).trans (hcell q hqL 1 (by omega))
   have k2 : wr.cell? ⟨b, o + q * 3 + 2, none⟩ = some (tv q) := (HBW.out.cell (p := ⟨b, o + q * 3 + 2, none⟩) (by show b < w.heap.size; omega)).trans (hcell q hqL 2 (by omega))
   have HSQ := hid (HSC.out HLV1.out HQV1.out q hqL)
   have HAQ := hid (HAL.out HLV1.out HQV1.out q hqL)
   have HSM1 := hid (HSM.out HLV1.out HQV1.out q hqL)
   have HTI1 := hid (HTI.out HLV1.out q hqL)
   have HIS1 := hid (HIS.out q hqL)
   have HAP1 := hid (HAP.out q)
   have HPF : Hid (tpP qc (ts.getD q Ta.z) = tpP qc (tabI ts (ts.getD q Ta.z).id)) := hid (by rw [HTI1.out])
   have HQF : Hid (tpQ qc (ts.getD q Ta.z) = tpQ qc (tabI ts (ts.getD q Ta.z).id)) := hid (by rw [HTI1.out])
   have HCF : Hid ((ts.getD q Ta.z).cols = (tabI ts (ts.getD q Ta.z).id).cols) := hid (by rw [HTI1.out])
   clear HTI1
   obtain ⟨ka, kn, kc, hkv⟩ := HKV.out q hqL
   rw [hkv] at k2 HSQ HAQ
   clear hcell hkv
   rw [show commonL qc (ts.getD q Ta.z).cols / Nat.gcd (commonL qc (ts.getD q Ta.z).cols) (denS qc (ts.getD q Ta.z).cols) = tpP qc (ts.getD q Ta.z) from rfl, show denS qc (ts.getD q Ta.z).cols / Nat.gcd (commonL qc (ts.getD q Ta.z).cols) (denS qc (ts.getD q Ta.z).cols) = tpQ qc (ts.getD q Ta.z) from rfl] at HSQ
   generalize tpP qc (ts.getD q Ta.z) = P at *
   generalize tpQ qc (ts.getD q Ta.z) = Q at *
   generalize (ts.getD q Ta.z).id = ti at *
   generalize (ts.getD q Ta.z).name = tn at *
   generalize (ts.getD q Ta.z).cols = tc at *
   have HST3 := hid (HST.out.later ((Below.refl wr.heap.size wr).alloc (Nat.le_refl _) (.cells #[.int .i64 ti, .string tn, .slice ka kn kc] 24)))
   have HT3 := hid (BoxN.new wr #[.int .i64 ti, .string tn, .slice ka kn kc] 24)
   have hx3 := HX2.out.below HST3.out.bel HX2.out.lt
   have x0 := hx3.cell 0 rfl
   have x1 := hx3.cell 1 rfl
   have x2 := hx3.cell 2 rfl
   go_wp2_with fail
   generalize wr.alloc (.cells #[.int .i64 ti, .string tn, .slice ka kn kc] 24) = W3 at *
   clear k0 k1 k2 x0 x1 x2
   with_reducible refine (HSQ.out W3 (Fr.belowT HB2.out HST3.out.bel)).mono ?_
   rintro e w4 ⟨a4, c4, d4, e4, rfl, hN, hb4⟩
   have HF5 := hid (Fr.FrB.new (hN.rd false))
   have HB5 := hid (hb4.trans ((Below.refl w4.heap.size w4).alloc (Nat.le_refl _) (.cells #[.bool false, .slice a4 (Fr.dig P).length c4, .bool false, .slice d4 (Fr.dig Q).length e4] 49) |>.mono hb4.size))
   have HST5 := hid (HST3.out.later HB5.out)
   have HT5 := hid (HT3.out.below HB5.out HT3.out.lt)
   have HN5 := hid (hN.kept ((Below.refl w4.heap.size w4).alloc (Nat.le_refl _) (.cells #[.bool false, .slice a4 (Fr.dig P).length c4, .bool false, .slice d4 (Fr.dig Q).length e4] 49)))
   have hz3 : wr.heap.size < W3.heap.size := HT3.out.lt
   clear hN hb4
   go_wp2_with fail
   generalize w4.alloc (.cells #[.bool false, .slice a4 (Fr.dig P).length c4, .bool false, .slice d4 (Fr.dig Q).length e4] 49) = W5 at *
   have HRF5 := hid HF5.out.2
   with_reducible refine (Fr.lists_Positive _ P Q W5 HRF5.out HSM1.out (HOA.out _ (Fr.belowT HB2.out HST5.out.bel))).mono ?_
   rintro e w6 ⟨rfl, hb6⟩
   have HST6 := hid (HST5.out.later hb6)
   have HT6 := hid (HT5.out.below hb6 HT5.out.lt)
   have HF6 := hid (HF5.out.below hb6)
   have HN6 := hid (HN5.out.kept hb6)
   have hz36 := Nat.le_trans HB5.out.size hb6.size
   clear hb6
   by_cases hP : 0 < P
   ·have hPd : decide (0 < P) = true := decide_eq_true hP
    have hx6 := HX2.out.below HST6.out.bel HX2.out.lt
    have x0 := hx6.cell 0 rfl
    have x1 := hx6.cell 1 rfl
    have x2 := hx6.cell 2 rfl
    have y0 := HT6.out.cell 0 rfl
    have y1 := HT6.out.cell 1 rfl
    have y2 := HT6.out.cell 2 rfl
    clear hx6
    go_wp2_with fail
    with_reducible refine (HAQ.out w6 (Fr.belowT HB2.out HST6.out.bel)).mono ?_
    intro e w7 hal
    have HALG := hid (HAP1.out hP)
    obtain ⟨hb7, al, ac, rfl, hin⟩ := align_own hal HALG.out
    obtain ⟨an, han⟩ : ∃ an, an = qc.length := ⟨_, rfl⟩
    rw [← han] at hin ⊢
    have HIN := hid hin
    clear hin han
    have HST7 := hid (HST6.out.later hb7)
    have HT7 := hid (HT6.out.below hb7 HT6.out.lt)
    have HF7 := hid (HF6.out.below hb7)
    have HN7 := hid (HN6.out.kept hb7)
    clear hal hb7 x0 x1 x2 y0 y1 y2
    have y0 := HT7.out.cell 0 rfl
    have z0 := HF7.out.1.cell 0 rfl
    have z1 := HF7.out.1.cell 1 rfl
    have z2 := HF7.out.1.cell 2 rfl
    have z3 := HF7.out.1.cell 3 rfl
    have HOW := hid (HST7.out.row.alloc (.cells #[.int .i64 ti, .slice al an ac, .bool false, .slice a4 (Fr.dig P).length c4, .bool false, .slice d4 (Fr.dig Q).length e4] 135))
    have HNB := hid (BoxN.new w7 #[.int .i64 ti, .slice al an ac, .bool false, .slice a4 (Fr.dig P).length c4, .bool false, .slice d4 (Fr.dig Q).length e4] 135)
    have HST8 := hid (HST7.out.later ((Below.refl w7.heap.size w7).alloc (Nat.le_refl _) (.cells #[.int .i64 ti, .slice al an ac, .bool false, .slice a4 (Fr.dig P).length c4, .bool false, .slice d4 (Fr.dig Q).length e4] 135)))
    have HN8 := hid (HN7.out.kept ((Below.refl w7.heap.size w7).alloc (Nat.le_refl _) (.cells #[.int .i64 ti, .slice al an ac, .bool false, .slice a4 (Fr.dig P).length c4, .bool false, .slice d4 (Fr.dig Q).length e4] 135)))
    have hz7 := HST7.out.bel.size
    have HOL : Hid (∀ k, (Value.slice va ds.length vc).ownBlock = some k → k < W3.heap.size) := hid (fun k hk => Nat.lt_trans (HST.out.row.lt k hk).2 hz3)
    go_wp2_with (at_builtin; refine wpList_append_form _ rfl _ _ 81 81 rfl w2.heap.size 135 135 i0 (.agg #[.int .i64 0, .slice none 0 0, .bool false, .slice none 0 0, .bool false, .slice none 0 0]) 6 96 Tryz.underlying81 Tryz.underlying81 hi hz0 hz1 hz2 rfl (by decide) (.slice va ds.length vc) ds.length (FL ds) rfl HOW.out (some ⟨_, 0, none⟩) 1 1 [.int .i64 ti, .slice al an ac, .bool false, .slice a4 (Fr.dig P).length c4, .bool false, .slice d4 (Fr.dig Q).length e4] rfl rfl (fun _ => ⟨_, rfl, World.news_of_block HNB.out⟩) (by intro u hu; simp at hu; rcases hu with rfl | rfl | rfl | rfl | rfl | rfl <;> rfl) (by omega) (by unfold maxLen; omega) (by omega) (by simp; omega) ?_; intro p9 cap9 w9 hown9 hg9 hat9 hlt9; have HG9 := hid hg9; have HOWN9 := hid hown9; have HAT9 := hid hat9; clear hown9 hg9 hat9)
    have HGR : Hid (GoodR (w7.alloc (.cells #[.int .i64 ti, .slice al an ac, .bool false, .slice a4 (Fr.dig P).length c4, .bool false, .slice d4 (Fr.dig Q).length e4] 135)) (.slice va ds.length vc) ⟨ti, (al, an, ac), (a4, c4), (d4, e4), P, Q⟩) := hid ⟨HN8.out.1, HN8.out.2.1, fun k hk => HN8.out.2.2.1 k (HOL.out k hk), fun k hk => HN8.out.2.2.2 k (HOL.out k hk), HSM1.out⟩
    obtain ⟨xq, hxq⟩ : ∃ xq : Mq, xq.1 = ⟨ti, (al, an, ac), (a4, c4), (d4, e4), P, Q⟩ := ⟨⟨_, HSM1.out.pos⟩, rfl⟩
    have HGA : Hid (GoodA (w7.alloc (.cells #[.int .i64 ti, .slice al an ac, .bool false, .slice a4 (Fr.dig P).length c4, .bool false, .slice d4 (Fr.dig Q).length e4] 135)) (.slice va ds.length vc) ts qc xq.1) := hid (by
     rw [hxq]
     refine ⟨HPF.out, HQF.out, ?_⟩
     show InK 1 _ _ (.slice al an ac) (alignL qc (tabI ts ti).cols).length _
     rw [← HCF.out]
     exact (HIN.out.keep fun p hp => World.cell?_alloc_lt _ _ _ hp.2).more fun b hb => ⟨by have := hb.2; simp; omega, fun e => by have h1 := HOL.out b e; have h2 := hb.1; omega⟩)
    have HST9 := hid (HST8.out.push (x := xq) rfl (by rw [hxq]; exact HOWN9.out) HG9.out HAT9.out (by rw [hxq]; exact HGR.out) HGA.out (by rw [HIS1.out, if_pos hP, hxq]))
    clear y0 z0 z1 z2 z3 hxq
    go_wp2
    go_roundg (gk - 1)
    case rel => exact ⟨q + 1, ds ++ [xq], by go_num, by omega, by rw [List.length_append, List.length_singleton]; omega, HST9⟩
    case measure => omega
   ·have hPd : decide (0 < P) = false := decide_eq_false hP
    have HSK := hid (HST6.out.skip (by rw [HIS1.out, if_neg hP]))
    go_wp2
    go_roundg (gk - 1)
    case rel => exact ⟨q + 1, ds, by go_num, by omega, by omega, HSK⟩
    case measure => omega
  ·obtain rfl : gk = 0 := by omega
   obtain rfl : q = L := by omega
   have HIDS : Hid (ds.map (fun x => x.1.id) = idsP ts qc) := hid (by rw [HST.out.ids, HIE.out])
   by_cases hd0 : ds = []
   ·subst hd0
    have hv0 := HST.out.start rfl
    obtain ⟨rfl, -, rfl⟩ := Value.slice.inj hv0
    have HF0 := hid (lists_First0 kk wr (by omega))
    have HFIN := hid (HTX.out wr none 0 0 [] HBW.out (RdM.none _ _ _) HE0.out [] (by rw [← HIDS.out]; exact List.Perm.refl _) List.Pairwise.nil (by simp))
    clear hv0 HST
    go_wp2_with fail
    with_reducible refine HF0.out.mono ?_
    rintro e w8 ⟨rfl, rfl⟩
    go_wp2
    (try go_ret2)
    exact HFIN.out
   ·have hpos : 0 < ds.length := List.length_pos_iff.2 hd0
    obtain ⟨n, hn⟩ : ∃ n, n = ds.length := ⟨_, rfl⟩
    have hrow := HST.out.row
    rw [← FL_enc, ← hn] at hrow
    rw [← hn] at hpos hdq
    rcases hrow.2 with ⟨e1, -⟩ | ⟨g, cap1, cur, e1, hbg, hheap, -⟩
    ·have := (Value.slice.inj e1).2.1
     omega
    ·obtain ⟨rfl, -, rfl⟩ := Value.slice.inj e1
     have HFI := hid (lists_FirstX ds w2.heap.size g n vc kk wr hn.symm hpos (by omega) (by omega) hrow (fun x hx => by
      have h := (HST.out.good x hx).1
      exact ⟨h.nu, h.de, h.onu g rfl, h.ode g rfl, h.sml⟩) (fun W hW => HOA.out W (HBW.out.trans (hW.below (by have := HBW.out.size; omega) (by omega)))))
     have HGM := hid (fun x (hx : x ∈ ds) => (HST.out.good x hx))
     have hgz : g < wr.heap.size := (Array.getElem?_eq_some_iff.1 hheap).1
     have HDL := hid hn
     rw [← hn]
     clear hrow hheap e1 HST hn
     go_wp2_with fail
     with_reducible refine HFI.out.mono ?_
     rintro e w8 ⟨rfl, ds', h1, h2, h3, h4⟩
     have hl : ds'.length = n := by rw [h1.length_eq, HDL.out]
     have HFIN := hid (HTX.out w8 (some ⟨g, 0, none⟩) (min kk n) vc ((ds'.map (fun x => x.1.id)).take (min kk n)) (HBW.out.trans (h4.below (by have := HBW.out.size; omega) (by omega)))
      (RdM.front hl ((inK_of_owns h3).more fun b hb => by
       have e : g = b := by simpa [Value.ownBlock] using hb
       subst e
       have := h4.size; omega) (fun x hx => by
        obtain ⟨a1, a2⟩ := HGM.out x (h1.mem_iff.1 hx)
        have gm : GoodM wr g x.1 := ⟨a1.nu, a1.de, a1.onu g rfl, a1.ode g rfl, a1.sml⟩
        refine ⟨a2.fp, a2.fq, gm.rd h4, a1.sml, ?_⟩
        exact (a2.al.keep fun p hp => h4.cell (p := p) hp.1 (fun e => hp.2 (by rw [e]; rfl))).more fun b hb => Nat.lt_of_lt_of_le hb.1 h4.size) (Nat.min_le_right _ _)) HE0.out (ds'.map (fun x => x.1.id)) (by rw [← HIDS.out]; exact h1.map _)
      (by
       rw [List.pairwise_map]
       refine List.Pairwise.imp_of_mem (fun {x y} hx hy h => ?_) h2
       exact befS_of (HGM.out x (h1.mem_iff.1 hx)).2 (HGM.out y (h1.mem_iff.1 hy)).2 h) (by
       show List.take (min kk n) _ = List.take ((kk : Int)).toNat _
       rw [show ((kk : Int)).toNat = kk by omega]
       have hlm : (ds'.map (fun x => x.1.id)).length = n := by rw [List.length_map, hl]
       rcases Nat.le_total kk n with h | h
       ·rw [Nat.min_eq_left h]
       ·rw [Nat.min_eq_right h, List.take_of_length_le (by omega), List.take_of_length_le (by omega)]))
     clear h1 h2 h3 h4
     go_wp2
     (try go_ret2)
     exact HFIN.out
end Go.Proofs.YthblaeleogdfpaaGreatDoor
