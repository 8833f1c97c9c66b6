/- Words for lists of relations; contract of graph.From. Contracts of the order of references: cmp.Compare, cmp.Or, table.Less. Relations in order: lists.Refs, the comparator of graph.Build, slices.SortFunc at relations. -/
import Derived.Test.YtaajpliifdlokaaGreatDoorGFrau
import Derived.Test.YtaajpliifdlokaaGreatDoorGFray
import Derived.Deep.RegionHeld3
import Derived.Test.YtaajpliifdlokaaGreatDoorProg
import Derived.Test.YtaajpliifdlokaaGreatDoorGFrah
import Derived.Shelf.SlSortCmp.NoneTotal
set_option linter.unusedVariables false
set_option linter.unusedSimpArgs false
namespace Go.Proofs.YtaajpliifdlokaaGreatDoor
open Go.RowKit
theorem rl_len (r : Rl) : r.cs.length = 11 := rfl
theorem rl_one (r : Rl) : ∀ u ∈ r.cs, u.oneCell' = true := by
  intro u hu
  simp [Rl.cs] at hu
  rcases hu with rfl | rfl | rfl | rfl | rfl | rfl | rfl | rfl | rfl | rfl | rfl <;> rfl
theorem own_below {w w' : World} {base : Nat} {e : TypeId} {size n : Nat} {v : Value} {xs : List Value} (h : w.ownsRow base e size v n xs) (hb : Below w.heap.size w w') : w'.ownsRow base e size v n xs := by
  obtain ⟨hl, h⟩ := h
  refine ⟨hl, ?_⟩
  rcases h with ⟨e1, h1⟩ | ⟨g, cap, cur, e1, h2, h3, h4⟩
  · exact .inl ⟨e1, h1⟩
  · exact .inr ⟨g, cap, cur, e1, h2, (hb.block g (Array.getElem?_eq_some_iff.1 h3).1).trans h3, h4⟩
def RdRl (w : World) (S : Nat → Prop) (v : Value) (rs : List Rl) : Prop := InK 11 w S v rs.length (encF Rl.cs Rl.z rs)
def OwnR (w : World) (base : Nat) (v : Value) (rs : List Rl) : Prop := w.ownsRow base 44 11 v rs.length (flatK 11 rs.length (encF Rl.cs Rl.z rs))
theorem ownR_start (w : World) (base : Nat) : OwnR w base (.slice none 0 0) [] := World.ownsRow_nil _ _ _ _
theorem OwnR.read {w : World} {base : Nat} {v : Value} {rs : List Rl} (h : OwnR w base v rs) : RdRl w (fun b => base ≤ b ∧ b < w.heap.size) v rs := by
  refine InK.more (inK_of_owns h) fun b hb => ?_
  exact h.lt b hb
theorem OwnR.len {w : World} {base : Nat} {v : Value} {rs : List Rl} (h : OwnR w base v rs) : ∃ a c, v = .slice a rs.length c := own_slice h
theorem RdRl.len {w : World} {S : Nat → Prop} {v : Value} {rs : List Rl} (h : RdRl w S v rs) : ∃ a c, v = .slice a rs.length c := by
  obtain ⟨a, c, e, -⟩ := h
  exact ⟨a, c, e⟩
theorem RdRl.keep {w w' : World} {S : Nat → Prop} {v : Value} {rs : List Rl} (h : RdRl w S v rs) (hk : ∀ p : Addr, S p.block → w'.cell? p = w.cell? p) : RdRl w' S v rs := InK.keep h hk
theorem RdRl.more {w : World} {S S' : Nat → Prop} {v : Value} {rs : List Rl} (h : RdRl w S v rs) (hS : ∀ b, S b → S' b) : RdRl w S' v rs := InK.more h hS
theorem OwnR.later {w w' : World} {base : Nat} {v : Value} {rs : List Rl} (h : OwnR w base v rs) (hb : Below w.heap.size w w') : OwnR w' base v rs := own_below h hb
theorem rl_at {w : World} {S : Nat → Prop} {v : Value} {rs : List Rl} (h : RdRl w S v rs) {q : Nat} (hq : q < rs.length) : ∃ b o c, v = .slice (some ⟨b, o, none⟩) rs.length c ∧ S b ∧ w.cell? ⟨b, o + q * 11, none⟩ = some (.int .i64 (rs.getD q Rl.z).ta) ∧ w.cell? ⟨b, o + q * 11 + 1, none⟩ = some (.int .i64 (rs.getD q Rl.z).ca) ∧ w.cell? ⟨b, o + q * 11 + 2, none⟩ = some (.int .i64 (rs.getD q Rl.z).tb) ∧ w.cell? ⟨b, o + q * 11 + 3, none⟩ = some (.int .i64 (rs.getD q Rl.z).cb) ∧ w.cell? ⟨b, o + q * 11 + 4, none⟩ = some (.int .i64 (rs.getD q Rl.z).co) ∧ w.cell? ⟨b, o + q * 11 + 5, none⟩ = some (.int .i64 (rs.getD q Rl.z).oa) ∧ w.cell? ⟨b, o + q * 11 + 6, none⟩ = some (.int .i64 (rs.getD q Rl.z).ob) ∧ w.cell? ⟨b, o + q * 11 + 7, none⟩ = some (.int .i64 (rs.getD q Rl.z).ma) ∧ w.cell? ⟨b, o + q * 11 + 8, none⟩ = some (.int .i64 (rs.getD q Rl.z).mb) ∧ w.cell? ⟨b, o + q * 11 + 9, none⟩ = some (.int .i64 (rs.getD q Rl.z).la) ∧ w.cell? ⟨b, o + q * 11 + 10, none⟩ = some (.int .i64 (rs.getD q Rl.z).lb) := by
  obtain ⟨a, c, rfl, -, -, hr⟩ := h
  obtain ⟨b, o, rfl, hb, hc⟩ := hr (by omega)
  exact ⟨b, o, c, rfl, hb, hc q hq 0 (by omega), hc q hq 1 (by omega), hc q hq 2 (by omega), hc q hq 3 (by omega), hc q hq 4 (by omega), hc q hq 5 (by omega), hc q hq 6 (by omega), hc q hq 7 (by omega), hc q hq 8 (by omega), hc q hq 9 (by omega), hc q hq 10 (by omega)⟩
theorem encR_push (rs : List Rl) (r : Rl) : flatK 11 rs.length (encF Rl.cs Rl.z rs) ++ r.cs = flatK 11 (rs.length + 1) (encF Rl.cs Rl.z (rs ++ [r])) := by
  refine flat_push (fun i hi j hj => ?_) ?_
  · simp [encF, List.getD, List.getElem?_append_left hi]
  · have e : (rs ++ [r]).getD rs.length Rl.z = r := by simp [List.getD]
    unfold encF
    rw [e]
    obtain ⟨ta, ca, tb, cb, co, oa, ob, ma, mb, la, lb⟩ := r
    rfl
theorem info_rl : (Tryz.prog.info? 44).map (fun i => (i.zero, i.size, i.bytes)) = some (some (.agg #[.int .i64 0, .int .i64 0, .int .i64 0, .int .i64 0, .int .i64 0, .int .i64 0, .int .i64 0, .int .i64 0, .int .i64 0, .int .i64 0, .int .i64 0]), 11, 88) := by kernel_rfl
set_option maxRecDepth 100000 in
theorem wpList_append_rl {w : World} {ops : Array Oper} {rest : List Oper} {o : Oper} {a : Act} {Q : Exit → Act → World → Prop} (hgd : o.guard = none) (s x : Operand) (ho : o.op = .call { callee := .builtin .append, args := #[s, x], argTypes := #[37, 37] })
    (base : Nat) (v : Value) (rs : List Rl) (hs : a.eval s = v) (hown : OwnR w base v rs) (r : Rl) (blk c : Nat) (e' : TypeId) (hx : a.eval x = .slice (some ⟨blk, 0, none⟩) 1 c) (hbox : BoxN w blk e' r.cs.toArray) (hl : rs.length < 1048576) (hbase : base ≤ w.heap.size)
    (h : ∀ g cap w', OwnR w' base (.slice (some ⟨g, 0, none⟩) (rs.length + 1) cap) (rs ++ [r]) → w.grownBy w' v.ownBlock → wpList Tryz.prog ops Q rest (a.put o.dst (.slice (some ⟨g, 0, none⟩) (rs.length + 1) cap)) w') : wpList Tryz.prog ops Q (o :: rest) a w := by
  obtain ⟨i0, hi, hz0, hz1, hz2⟩ := info_parts info_rl
  refine wpList_append_form w hgd s x 37 37 ho base 44 44 i0 _ 11 88 Tryz.underlying37 Tryz.underlying37 hi hz0 hz1 hz2 rfl (by decide) v rs.length _ hs hown (some ⟨blk, 0, none⟩) 1 c r.cs hx (rl_len r) (fun _ => ⟨_, rfl, fun j u hj => ?_⟩) (rl_one r) (by omega) (by unfold maxLen; omega) (by omega) hbase fun g cap w' h1 h2 _ _ => h g cap w' ?_ h2
  · have h1 := hbox.cell j (v := u) (by simpa using hj)
    have e : (⟨blk, 0, none⟩ : Addr).add j = ⟨blk, j, none⟩ := by unfold Addr.add; split <;> simp_all
    rw [e]
    exact h1
  · unfold OwnR
    rw [List.length_append, List.length_singleton, ← encR_push]
    exact h1
def fromO (t : Int) (r : Rl) : Option Rl := if r.ta = t then some r else if r.tb = t then some r.turn else none
def fromR (rs : List Rl) (t : Int) : List Rl := rs.filterMap (fromO t)
theorem fromR_take {rs : List Rl} {t : Int} {q : Nat} (h : q < rs.length) : fromR (rs.take (q + 1)) t = fromR (rs.take q) t ++ (fromO t (rs.getD q Rl.z)).toList := by
  unfold fromR
  rw [List.take_succ_eq_append_getElem h, List.filterMap_append]
  have e : rs.getD q Rl.z = rs[q] := by simp [List.getD, h]
  rw [e, List.filterMap_cons, List.filterMap_nil]
  cases fromO t rs[q] <;> rfl
theorem fromR_len (rs : List Rl) (t : Int) (q : Nat) : (fromR (rs.take q) t).length ≤ q := Nat.le_trans (List.length_filterMap_le _ _) (List.length_take_le _ _)
def GivesR (w : World) (rs : List Rl) (e : Ending) (w' : World) : Prop := ∃ u, e = .returned u ∧ OwnR w' w.heap.size u rs ∧ Below w.heap.size w w'
set_option maxRecDepth 100000 in
set_option maxHeartbeats 4000000 in
theorem graph_From (v : Value) (rs : List Rl) (t : Int) (B : Nat) (w : World) (hv : RdRl w (· < B) v rs) (hB : B ≤ w.heap.size) (hl : rs.length ≤ 1000000) : Calls Tryz.prog 19 #[v, .int .i64 t] w (GivesR w (fromR rs t)) := by
 have HV := hid (fun W (hW : Below w.heap.size w W) => hv.keep (w' := W) fun p (hp : p.block < B) => hW.cell (p := p) (by omega))
 have HTK := hid (fun q h => @fromR_take rs t q h)
 have HTL := hid (fromR_len rs t)
 have HFIN : Hid (fromR (rs.take rs.length) t = fromR rs t) := hid (by rw [List.take_length])
 obtain ⟨a, c, rfl⟩ := hv.len
 clear hv
 generalize fromR rs t = F at *
 obtain ⟨L, hL⟩ : ∃ L, L = rs.length := ⟨_, rfl⟩
 rw [← hL] at HV HFIN hl
 rw [← hL]
 have HL := hid hL.symm
 clear hL
 go_enter Tryz.func19, Tryz.ntmps19
 go_wp2_with fail
 go_loopg [5, 10] L (fun N u i wr => ∃ q : Nat, q + N = L ∧ i = .int .i64 (q : Int) ∧ Hid (Below w.heap.size w wr) ∧ Hid (OwnR wr w.heap.size u (fromR (rs.take q) t)))
 case atStart => exact ⟨0, by omega, rfl, hid (Below.refl _ _), hid (ownR_start _ _)⟩
 case round =>
  obtain ⟨q, hq, rfl, HB, HO⟩ := hrel
  obtain ⟨ua, uc, rfl⟩ := HO.out.len
  by_cases hp : 0 < gk
  ·have hqi : (q : Int) < (L : Int) := by omega
   obtain ⟨b, o, c', e, hb, k0, k1, k2, k3, k4, k5, k6, k7, k8, k9, k10⟩ := rl_at (HV.out wr HB.out) (q := q) (by rw [HL.out]; omega)
   rw [HL.out] at e
   obtain ⟨rfl, -, rfl⟩ := Value.slice.inj e
   have HNX := hid (HTK.out q (by rw [HL.out]; omega))
   have hql := HTL.out q
   have hwz := HB.out.size
   clear e hb
   generalize fromR (rs.take q) t = acc at *
   generalize rs.getD q Rl.z = r at *
   obtain ⟨ta, ca, tb, cb, co, oa, ob, ma, mb, la, lb⟩ := r
   simp only at k0 k1 k2 k3 k4 k5 k6 k7 k8 k9 k10
   have hx := BoxN.new wr #[.int .i64 ta, .int .i64 ca, .int .i64 tb, .int .i64 cb, .int .i64 co, .int .i64 oa, .int .i64 ob, .int .i64 ma, .int .i64 mb, .int .i64 la, .int .i64 lb] 44
   have x0 := hx.cell 0 rfl
   have x1 := hx.cell 1 rfl
   have x2 := hx.cell 2 rfl
   have x3 := hx.cell 3 rfl
   have x4 := hx.cell 4 rfl
   have x5 := hx.cell 5 rfl
   have x6 := hx.cell 6 rfl
   have x7 := hx.cell 7 rfl
   have x8 := hx.cell 8 rfl
   have x9 := hx.cell 9 rfl
   have x10 := hx.cell 10 rfl
   have hwx : wr.heap.size < (wr.alloc (.cells #[.int .i64 ta, .int .i64 ca, .int .i64 tb, .int .i64 cb, .int .i64 co, .int .i64 oa, .int .i64 ob, .int .i64 ma, .int .i64 mb, .int .i64 la, .int .i64 lb] 44)).heap.size := hx.lt
   have HBy := hid ((HB.out.alloc hwz (.cells #[.int .i64 ta, .int .i64 ca, .int .i64 tb, .int .i64 cb, .int .i64 co, .int .i64 oa, .int .i64 ob, .int .i64 ma, .int .i64 mb, .int .i64 la, .int .i64 lb] 44)).alloc (by rw [World.size_alloc]; omega) (.cells #[.int .i64 ta, .int .i64 ca, .int .i64 tb, .int .i64 cb, .int .i64 co, .int .i64 oa, .int .i64 ob, .int .i64 ma, .int .i64 mb, .int .i64 la, .int .i64 lb] 44))
   have HBx := hid (HB.out.alloc hwz (.cells #[.int .i64 ta, .int .i64 ca, .int .i64 tb, .int .i64 cb, .int .i64 co, .int .i64 oa, .int .i64 ob, .int .i64 ma, .int .i64 mb, .int .i64 la, .int .i64 lb] 44))
   have HOy := hid (HO.out.later (((Below.refl wr.heap.size wr).alloc (Nat.le_refl _) (.cells #[.int .i64 ta, .int .i64 ca, .int .i64 tb, .int .i64 cb, .int .i64 co, .int .i64 oa, .int .i64 ob, .int .i64 ma, .int .i64 mb, .int .i64 la, .int .i64 lb] 44)).alloc (by simp) (.cells #[.int .i64 ta, .int .i64 ca, .int .i64 tb, .int .i64 cb, .int .i64 co, .int .i64 oa, .int .i64 ob, .int .i64 ma, .int .i64 mb, .int .i64 la, .int .i64 lb] 44)))
   have HOx := hid (HO.out.later ((Below.refl wr.heap.size wr).alloc (Nat.le_refl _) (.cells #[.int .i64 ta, .int .i64 ca, .int .i64 tb, .int .i64 cb, .int .i64 co, .int .i64 oa, .int .i64 ob, .int .i64 ma, .int .i64 mb, .int .i64 la, .int .i64 lb] 44)))
   have hbn := BoxN.new (wr.alloc (.cells #[.int .i64 ta, .int .i64 ca, .int .i64 tb, .int .i64 cb, .int .i64 co, .int .i64 oa, .int .i64 ob, .int .i64 ma, .int .i64 mb, .int .i64 la, .int .i64 lb] 44)) #[.int .i64 ta, .int .i64 ca, .int .i64 tb, .int .i64 cb, .int .i64 co, .int .i64 oa, .int .i64 ob, .int .i64 ma, .int .i64 mb, .int .i64 la, .int .i64 lb] 44
   rw [World.size_alloc] at hbn
   have HBN := hid hbn
   clear hbn hx hwx
   obtain ⟨al, hal⟩ : ∃ al, al = acc.length := ⟨_, rfl⟩
   rw [← hal] at hql
   have HAL := hid hal.symm
   by_cases h1 : ta = t
   ·have HN1 : Hid (fromR (rs.take (q + 1)) t = acc ++ [⟨ta, ca, tb, cb, co, oa, ob, ma, mb, la, lb⟩]) := hid (by rw [HNX.out]; simp [fromO, h1])
    obtain rfl : t = ta := h1.symm
    go_wp2_with (at_builtin; refine wpList_append_rl rfl _ _ rfl w.heap.size (.slice ua acc.length uc) acc rfl HOy.out ⟨t, ca, tb, cb, co, oa, ob, ma, mb, la, lb⟩ (wr.heap.size + 1) 1 44 rfl HBN.out (by rw [HAL.out]; omega) (by rw [World.size_alloc, World.size_alloc]; omega) ?_; intro g cap w9 hown9 hg9; have HOWN9 := hid hown9; have HB9 := hid (HBy.out.grown hg9 (by rw [World.size_alloc, World.size_alloc]; omega) (fun k hk => (HO.out.lt k hk).1)); clear hown9 hg9)
    go_roundg (gk - 1)
    case rel => exact ⟨q + 1, by omega, by go_num, HB9, hid (by rw [HN1.out]; exact HOWN9.out)⟩
    case measure => omega
   ·have h1d : decide (t = ta) = false := decide_eq_false fun e => h1 e.symm
    have h1b : (t == ta) = false := beq_false_of_ne fun e => h1 e.symm
    by_cases h2 : tb = t
    ·have HN1 : Hid (fromR (rs.take (q + 1)) t = acc ++ [(⟨ta, ca, tb, cb, co, oa, ob, ma, mb, la, lb⟩ : Rl).turn]) := hid (by rw [HNX.out]; simp [fromO, h1, h2])
     obtain rfl : t = tb := h2.symm
     have HTU := hid (rel_Turn ⟨ta, ca, t, cb, co, oa, ob, ma, mb, la, lb⟩ (wr.alloc (.cells #[.int .i64 ta, .int .i64 ca, .int .i64 t, .int .i64 cb, .int .i64 co, .int .i64 oa, .int .i64 ob, .int .i64 ma, .int .i64 mb, .int .i64 la, .int .i64 lb] 44)))
     simp only [Rl.val, Rl.cs, Rl.turn] at HTU
     go_wp2_with fail
     with_reducible refine HTU.out.mono ?_
     rintro e w8 ⟨rfl, hb8⟩
     have hz8 := hb8.size
     have HB8 := hid (HBx.out.trans (hb8.mono HBx.out.size))
     have HO8 := hid ((HOx.out.later hb8).later ((Below.refl w8.heap.size w8).alloc (Nat.le_refl _) (.cells #[.int .i64 t, .int .i64 cb, .int .i64 ta, .int .i64 ca, .int .i64 co, .int .i64 ob, .int .i64 oa, .int .i64 mb, .int .i64 ma, .int .i64 lb, .int .i64 la] 44)))
     have HB9a := hid (HB8.out.alloc HB8.out.size (.cells #[.int .i64 t, .int .i64 cb, .int .i64 ta, .int .i64 ca, .int .i64 co, .int .i64 ob, .int .i64 oa, .int .i64 mb, .int .i64 ma, .int .i64 lb, .int .i64 la] 44))
     have HBN8 := hid (BoxN.new w8 #[.int .i64 t, .int .i64 cb, .int .i64 ta, .int .i64 ca, .int .i64 co, .int .i64 ob, .int .i64 oa, .int .i64 mb, .int .i64 ma, .int .i64 lb, .int .i64 la] 44)
     have h8s := HB8.out.size
     clear hb8 HTU
     go_wp2_with (at_builtin; refine wpList_append_rl rfl _ _ rfl w.heap.size (.slice ua acc.length uc) acc rfl HO8.out (⟨ta, ca, t, cb, co, oa, ob, ma, mb, la, lb⟩ : Rl).turn w8.heap.size 1 44 rfl HBN8.out (by rw [HAL.out]; omega) (by rw [World.size_alloc]; omega) ?_; intro g cap w9 hown9 hg9; have HOWN9 := hid hown9; have HB9 := hid (HB9a.out.grown hg9 (by rw [World.size_alloc]; omega) (fun k hk => (HO.out.lt k hk).1)); clear hown9 hg9)
     go_roundg (gk - 1)
     case rel => exact ⟨q + 1, by omega, by go_num, HB9, hid (by rw [HN1.out]; exact HOWN9.out)⟩
     case measure => omega
    ·have HN1 : Hid (fromR (rs.take (q + 1)) t = acc) := hid (by rw [HNX.out]; simp [fromO, h1, h2])
     have h2d : decide (t = tb) = false := decide_eq_false fun e => h2 e.symm
     have h2b : (t == tb) = false := beq_false_of_ne fun e => h2 e.symm
     go_wp2_with fail
     go_roundg (gk - 1)
     case rel => exact ⟨q + 1, by omega, by go_num, HBx, hid (by rw [HN1.out]; exact HOx.out)⟩
     case measure => omega
  ·obtain rfl : gk = 0 := by omega
   obtain rfl : q = L := by omega
   have HO2 := hid (by have h := HO.out; rw [HFIN.out] at h; exact h)
   have HG : Hid (GivesR w F (.returned (.slice ua (fromR (rs.take q) t).length uc)) wr) := hid ⟨_, rfl, by rw [HFIN.out]; exact HO2.out, HB.out⟩
   go_wp2
   go_ret
   exact HG.out
end Go.Proofs.YtaajpliifdlokaaGreatDoor

namespace Go.Proofs.YtaajpliifdlokaaGreatDoor
open Go.RowKit
def cmpZ (x y : Int) : Int := if x < y then -1 else if y < x then 1 else 0
set_option maxHeartbeats 400000 in
theorem lib_isNaN (x : Int) (w : World) : Calls Tryz.prog 106 #[.int .i64 x] w fun e w' => e = .returned (.bool false) ∧ w = w' := by
  go_enter Tryz.func106, Tryz.ntmps106
  go_wp2
  go_ret
  exact ⟨by simp, rfl⟩
set_option maxHeartbeats 1000000 in
theorem lib_Compare (x y : Int) (w : World) : Calls Tryz.prog 65 #[.int .i64 x, .int .i64 y] w fun e w' => e = .returned (.int .i64 (cmpZ x y)) ∧ w = w' := by
  have HC : Hid (cmpZ x y = if x < y then -1 else if y < x then 1 else 0) := hid rfl
  generalize cmpZ x y = c at *
  go_enter Tryz.func65, Tryz.ntmps65
  go_wp2_with fail
  with_reducible refine (lib_isNaN _ _).mono ?_
  rintro e w1 ⟨rfl, rfl⟩
  go_wp2_with fail
  with_reducible refine (lib_isNaN _ _).mono ?_
  rintro e w1 ⟨rfl, rfl⟩
  by_cases h1 : x < y
  · go_wp2
    go_ret
    exact ⟨ret_int (by rw [HC.out, if_pos (by omega)]), rfl⟩
  · by_cases h2 : y < x
    · go_wp2
      go_ret
      exact ⟨ret_int (by rw [HC.out, if_neg (by omega), if_pos (by omega)]), rfl⟩
    · go_wp2
      go_ret
      exact ⟨ret_int (by rw [HC.out, if_neg (by omega), if_neg (by omega)]), rfl⟩
def orZ (x y : Int) : Int := if x ≠ 0 then x else y
set_option maxHeartbeats 1000000 in
theorem lib_Or2 (x y : Int) (b c : Nat) (w : World) (h0 : w.cell? ⟨b, 0, none⟩ = some (.int .i64 x)) (h1 : w.cell? ⟨b, 1, none⟩ = some (.int .i64 y)) :
    Calls Tryz.prog 46 #[.slice (some ⟨b, 0, none⟩) 2 c] w fun e w' => e = .returned (.int .i64 (orZ x y)) ∧ w = w' := by
  have HC : Hid (orZ x y = if x ≠ 0 then x else y) := hid rfl
  generalize orZ x y = z at *
  go_enter Tryz.func46, Tryz.ntmps46
  by_cases hx : x = 0
  · subst hx
    by_cases hy : y = 0
    · subst hy
      go_wp2
      refine wp_loop_rounds 3 ?_
      rw [rounds_succ]
      go_wp2
      rw [rounds_succ]
      go_wp2
      rw [rounds_succ]
      go_wp2
      go_ret
      exact ⟨ret_int (by rw [HC.out]; simp), rfl⟩
    · have hy1 : (y != 0) = true := by simpa using hy
      go_wp2
      refine wp_loop_rounds 3 ?_
      rw [rounds_succ]
      go_wp2
      rw [rounds_succ]
      go_wp2
      go_ret
      exact ⟨ret_int (by rw [HC.out]; simp), rfl⟩
  · have hx1 : (x != 0) = true := by simpa using hx
    go_wp2
    refine wp_loop_rounds 3 ?_
    rw [rounds_succ]
    go_wp2
    go_ret
    exact ⟨ret_int (by rw [HC.out]; simp [hx]), rfl⟩
def rlt (a b : Int × Int) : Bool := decide (a.1 < b.1) || (decide (a.1 = b.1) && decide (a.2 < b.2))
theorem rlt_or (a b : Int × Int) : rlt a b = decide (orZ (cmpZ a.1 b.1) (cmpZ a.2 b.2) < 0) := by
  unfold rlt orZ cmpZ
  rw [Bool.eq_iff_iff]
  by_cases h1 : a.1 < b.1 <;> by_cases h2 : b.1 < a.1 <;> by_cases h3 : a.2 < b.2 <;> by_cases h4 : b.2 < a.2 <;> simp [h1, h2, h3, h4] <;> omega
set_option maxHeartbeats 1000000 in
theorem table_Less (a1 a2 b1 b2 : Int) (w : World) : Calls Tryz.prog 91 #[.agg #[.int .i64 a1, .int .i64 a2], .agg #[.int .i64 b1, .int .i64 b2]] w (Ret w (.bool (rlt (a1, a2) (b1, b2)))) := by
  have HR := hid (rlt_or (a1, a2) (b1, b2))
  generalize rlt (a1, a2) (b1, b2) = r at *
  go_enter Tryz.func91, Tryz.ntmps91
  go_wp2_with fail
  go_region_held3 (fun w' => w'.cell? ⟨w.heap.size, 0, none⟩ = some (.int .i64 a1) ∧ w'.cell? ⟨w.heap.size, 1, none⟩ = some (.int .i64 a2) ∧ w'.cell? ⟨w.heap.size + 1, 0, none⟩ = some (.int .i64 b1) ∧ w'.cell? ⟨w.heap.size + 1, 1, none⟩ = some (.int .i64 b2))
    (first | go_keep)
    (first
      | (go_at_call 65; go_must (((with_reducible refine (lib_Compare _ _ _).mono ?_); rintro e w5 ⟨rfl, rfl⟩)))
      | (go_at_call 46; go_must (((with_reducible refine (lib_Or2 (cmpZ a1 b1) (cmpZ a2 b2) _ _ _ (by go_cell) (by go_cell)).mono ?_); rintro e w5 ⟨rfl, rfl⟩))))
  all_goals
    go_wp2
    go_ret
    exact ⟨ret_bool (by rw [HR.out]), by have := Below.refl w.heap.size w; repeat' (first | (with_reducible exact Below.refl _ _) | (with_reducible assumption) | (with_reducible refine below_drewN ?_) | (with_reducible refine Below.alloc ?_ ?_ _) | (with_reducible refine Below.drew ?_) | (with_reducible refine Below.setCell ?_ ?_ _) | (with_reducible refine Below.trans ?_ (Below.mono (by with_reducible assumption) ?_)) | go_size)⟩
end Go.Proofs.YtaajpliifdlokaaGreatDoor

namespace Go.Proofs.YtaajpliifdlokaaGreatDoor
open Go.RowKit Go.Shelf
def refC (a b : Int × Int) : Int := if rlt a b = true then -1 else if rlt b a = true then 1 else 0
theorem rlt_is (a b : Int × Int) : rlt a b = true ↔ a.1 < b.1 ∨ (a.1 = b.1 ∧ a.2 < b.2) := by simp [rlt]
theorem refC_lt (a b : Int × Int) : refC a b < 0 ↔ a.1 < b.1 ∨ (a.1 = b.1 ∧ a.2 < b.2) := by
  unfold refC
  rw [← rlt_is]
  split
  · simp [*]
  · split <;> simp [*]
theorem refC_zero (a b : Int × Int) : refC a b = 0 ↔ a.1 = b.1 ∧ a.2 = b.2 := by
  unfold refC
  split
  · rename_i h
    rw [rlt_is] at h
    constructor
    · intro h1; omega
    · intro h1; omega
  · rename_i h
    split
    · rename_i h2
      rw [rlt_is] at h2
      constructor
      · intro h1; omega
      · intro h1; omega
    · rename_i h2
      rw [rlt_is] at h h2
      constructor
      · intro _; omega
      · intro _; rfl
set_option maxHeartbeats 1000000 in
theorem lists_Refs (a1 a2 b1 b2 : Int) (w : World) : Calls Tryz.prog 47 #[.agg #[.int .i64 a1, .int .i64 a2], .agg #[.int .i64 b1, .int .i64 b2]] w (Ret w (.int .i64 (refC (a1, a2) (b1, b2)))) := by
  have HL1 := hid (fun W => table_Less a1 a2 b1 b2 W)
  have HL2 := hid (fun W => table_Less b1 b2 a1 a2 W)
  have HZ : Hid (refC (a1, a2) (b1, b2) = if rlt (a1, a2) (b1, b2) = true then -1 else if rlt (b1, b2) (a1, a2) = true then 1 else 0) := hid rfl
  generalize refC (a1, a2) (b1, b2) = z at *
  generalize rlt (a1, a2) (b1, b2) = r1 at *
  generalize rlt (b1, b2) (a1, a2) = r2 at *
  have hx := (BoxN.new w #[.int .i64 a1, .int .i64 a2] 42).alloc (.cells #[.int .i64 b1, .int .i64 b2] 42)
  have hy := BoxN.new (w.alloc (.cells #[.int .i64 a1, .int .i64 a2] 42)) #[.int .i64 b1, .int .i64 b2] 42
  rw [World.size_alloc] at hy
  have HB0 := hid (((Below.refl w.heap.size w).alloc (Nat.le_refl _) (.cells #[.int .i64 a1, .int .i64 a2] 42)).alloc (by simp) (.cells #[.int .i64 b1, .int .i64 b2] 42))
  have HX := hid hx
  have HY := hid hy
  clear hx hy
  go_enter Tryz.func47, Tryz.ntmps47
  go_wp2_with fail
  generalize (w.alloc (.cells #[.int .i64 a1, .int .i64 a2] 42)).alloc (.cells #[.int .i64 b1, .int .i64 b2] 42) = W0 at *
  with_reducible refine (HL1.out _).mono ?_
  rintro e w3 ⟨rfl, hb3⟩
  have HB3 := hid (HB0.out.trans (hb3.mono HB0.out.size))
  have x0 := (HX.out.below hb3 HX.out.lt).cell 0 rfl
  have x1 := (HX.out.below hb3 HX.out.lt).cell 1 rfl
  have y0 := (HY.out.below hb3 HY.out.lt).cell 0 rfl
  have y1 := (HY.out.below hb3 HY.out.lt).cell 1 rfl
  clear hb3
  cases r1
  · go_wp2_with fail
    with_reducible refine (HL2.out _).mono ?_
    rintro e w4 ⟨rfl, hb4⟩
    have HB4 := hid (HB3.out.trans (hb4.mono HB3.out.size))
    clear hb4
    cases r2
    · go_wp2
      go_ret
      exact ⟨ret_int (by rw [HZ.out]; rfl), HB4.out⟩
    · go_wp2
      go_ret
      exact ⟨ret_int (by rw [HZ.out]; rfl), HB4.out⟩
  · go_wp2
    go_ret
    exact ⟨ret_int (by rw [HZ.out]; rfl), HB3.out⟩
def cmpR (x y : Rl) : Int := orZ (refC (x.ta, x.ca) (y.ta, y.ca)) (refC (x.tb, x.cb) (y.tb, y.cb))
def ltR (x y : Rl) : Prop := x.ta < y.ta ∨ (x.ta = y.ta ∧ (x.ca < y.ca ∨ (x.ca = y.ca ∧ (x.tb < y.tb ∨ (x.tb = y.tb ∧ x.cb < y.cb)))))
theorem cmpR_lt (x y : Rl) : Go.Proofs.ltOf cmpR x y = true ↔ ltR x y := by
  unfold Go.Proofs.ltOf cmpR orZ ltR
  rw [decide_eq_true_iff]
  by_cases h : refC (x.ta, x.ca) (y.ta, y.ca) = 0
  · rw [if_neg (by simpa using h), refC_lt]
    rw [refC_zero] at h
    simp only at h
    simp only
    omega
  · rw [if_pos h, refC_lt]
    rw [refC_zero] at h
    simp only at h
    simp only
    omega
theorem cmpR_ge (x y : Rl) : Go.Proofs.ltOf cmpR x y = false ↔ ¬ ltR x y := by rw [← Bool.not_eq_true, cmpR_lt]
theorem swoR : Go.Sort.SWO (Go.Proofs.ltOf cmpR) where
  irrefl x := by rw [cmpR_ge]; unfold ltR; omega
  trans x y z h1 h2 := by rw [cmpR_lt] at *; unfold ltR at *; omega
  ntrans x y z h1 h2 := by rw [cmpR_ge] at *; unfold ltR at *; omega
set_option maxRecDepth 100000 in
set_option maxHeartbeats 2000000 in
theorem graph_byRefs (x y : Rl) (w : World) : Calls Tryz.prog 45 #[.agg x.cs.toArray, .agg y.cs.toArray] w (fun e w' => e = .returned (.int .i64 (cmpR x y)) ∧ Below w.heap.size w w') := by
 obtain ⟨xta, xca, xtb, xcb, xco, xoa, xob, xma, xmb, xla, xlb⟩ := x
 obtain ⟨yta, yca, ytb, ycb, yco, yoa, yob, yma, ymb, yla, ylb⟩ := y
 have HR1 := hid (fun W => lists_Refs xta xca yta yca W)
 have HR2 := hid (fun W => lists_Refs xtb xcb ytb ycb W)
 unfold cmpR
 simp only [Rl.cs]
 generalize refC (xta, xca) (yta, yca) = r1 at *
 generalize refC (xtb, xcb) (ytb, ycb) = r2 at *
 have HOR := hid (fun b c W h0 h1 => lib_Or2 r1 r2 b c W h0 h1)
 have hx := (BoxN.new w #[.int .i64 xta, .int .i64 xca, .int .i64 xtb, .int .i64 xcb, .int .i64 xco, .int .i64 xoa, .int .i64 xob, .int .i64 xma, .int .i64 xmb, .int .i64 xla, .int .i64 xlb] 44).alloc (.cells #[.int .i64 yta, .int .i64 yca, .int .i64 ytb, .int .i64 ycb, .int .i64 yco, .int .i64 yoa, .int .i64 yob, .int .i64 yma, .int .i64 ymb, .int .i64 yla, .int .i64 ylb] 44)
 have hy := BoxN.new (w.alloc (.cells #[.int .i64 xta, .int .i64 xca, .int .i64 xtb, .int .i64 xcb, .int .i64 xco, .int .i64 xoa, .int .i64 xob, .int .i64 xma, .int .i64 xmb, .int .i64 xla, .int .i64 xlb] 44)) #[.int .i64 yta, .int .i64 yca, .int .i64 ytb, .int .i64 ycb, .int .i64 yco, .int .i64 yoa, .int .i64 yob, .int .i64 yma, .int .i64 ymb, .int .i64 yla, .int .i64 ylb] 44
 rw [World.size_alloc] at hy
 have hs0 := ((Below.refl w.heap.size w).alloc (Nat.le_refl _) (.cells #[.int .i64 xta, .int .i64 xca, .int .i64 xtb, .int .i64 xcb, .int .i64 xco, .int .i64 xoa, .int .i64 xob, .int .i64 xma, .int .i64 xmb, .int .i64 xla, .int .i64 xlb] 44)).alloc (by simp) (.cells #[.int .i64 yta, .int .i64 yca, .int .i64 ytb, .int .i64 ycb, .int .i64 yco, .int .i64 yoa, .int .i64 yob, .int .i64 yma, .int .i64 ymb, .int .i64 yla, .int .i64 ylb] 44)
 obtain ⟨W0, hW0⟩ : ∃ W, W = (w.alloc (.cells #[.int .i64 xta, .int .i64 xca, .int .i64 xtb, .int .i64 xcb, .int .i64 xco, .int .i64 xoa, .int .i64 xob, .int .i64 xma, .int .i64 xmb, .int .i64 xla, .int .i64 xlb] 44)).alloc (.cells #[.int .i64 yta, .int .i64 yca, .int .i64 ytb, .int .i64 ycb, .int .i64 yco, .int .i64 yoa, .int .i64 yob, .int .i64 yma, .int .i64 ymb, .int .i64 yla, .int .i64 ylb] 44) := ⟨_, rfl⟩
 rw [← hW0] at hx hy hs0
 have HS0 := hid hs0
 have HG := hid (fun W (hW : Below W0.heap.size W0 W) => (⟨(hx.below hW hx.lt).cell 0 rfl, (hx.below hW hx.lt).cell 1 rfl, (hx.below hW hx.lt).cell 2 rfl, (hx.below hW hx.lt).cell 3 rfl, (hy.below hW hy.lt).cell 0 rfl, (hy.below hW hy.lt).cell 1 rfl, (hy.below hW hy.lt).cell 2 rfl, (hy.below hW hy.lt).cell 3 rfl⟩ : W.cell? ⟨w.heap.size, 0, none⟩ = some (.int .i64 xta) ∧ W.cell? ⟨w.heap.size, 1, none⟩ = some (.int .i64 xca) ∧ W.cell? ⟨w.heap.size, 2, none⟩ = some (.int .i64 xtb) ∧ W.cell? ⟨w.heap.size, 3, none⟩ = some (.int .i64 xcb) ∧ W.cell? ⟨w.heap.size + 1, 0, none⟩ = some (.int .i64 yta) ∧ W.cell? ⟨w.heap.size + 1, 1, none⟩ = some (.int .i64 yca) ∧ W.cell? ⟨w.heap.size + 1, 2, none⟩ = some (.int .i64 ytb) ∧ W.cell? ⟨w.heap.size + 1, 3, none⟩ = some (.int .i64 ycb)))
 have HD := hid ((Below.refl W0.heap.size W0).drew)
 have hlt := hy.lt
 clear hx hy hs0
 go_enter Tryz.func45, Tryz.ntmps45
 go_upto_region 1 with fail
 rw [← hW0]
 clear hW0
 go_region_held3 (fun W => W.cell? ⟨w.heap.size, 0, none⟩ = some (.int .i64 xta) ∧ W.cell? ⟨w.heap.size, 1, none⟩ = some (.int .i64 xca) ∧ W.cell? ⟨w.heap.size, 2, none⟩ = some (.int .i64 xtb) ∧ W.cell? ⟨w.heap.size, 3, none⟩ = some (.int .i64 xcb) ∧ W.cell? ⟨w.heap.size + 1, 0, none⟩ = some (.int .i64 yta) ∧ W.cell? ⟨w.heap.size + 1, 1, none⟩ = some (.int .i64 yca) ∧ W.cell? ⟨w.heap.size + 1, 2, none⟩ = some (.int .i64 ytb) ∧ W.cell? ⟨w.heap.size + 1, 3, none⟩ = some (.int .i64 ycb))
  (first | exact HG.out _ HD.out | exact HG.out _ HD5.out | exact HG.out _ HD6.out | exact HG.out _ (HD6.out.alloc HD6.out.size _) | exact HG.out _ (HD5.out.alloc HD5.out.size _) | go_keep)
  (first
   | (go_at_call 47; go_must (first
     | ((with_reducible refine (HR1.out _).mono ?_); rintro e w5 ⟨rfl, hb5⟩; have HD5 : Hid (Below W0.heap.size W0 w5) := hid (by first | exact HD6.out.trans (hb5.mono HD6.out.size) | exact HD.out.trans (hb5.mono HD.out.size)); clear hb5)
     | ((with_reducible refine (HR2.out _).mono ?_); rintro e w6 ⟨rfl, hb6⟩; have HD6 : Hid (Below W0.heap.size W0 w6) := hid (by first | exact HD5.out.trans (hb6.mono HD5.out.size) | exact HD.out.trans (hb6.mono HD.out.size)); clear hb6)))
   | (go_at_call 46; go_must ((with_reducible refine (HOR.out _ _ _ (by go_cell) (by go_cell)).mono ?_); rintro e w7 ⟨rfl, rfl⟩)))
 all_goals
  go_wp2
  go_ret
  exact ⟨rfl, by first | exact HS0.out.trans ((HD6.out.alloc HD6.out.size _).mono HS0.out.size) | exact HS0.out.trans ((HD5.out.alloc HD5.out.size _).mono HS0.out.size)⟩
instance : Inhabited Rl := ⟨Rl.z⟩
def SortedR (w : World) (base : Nat) (v : Value) (rs : List Rl) (e : Ending) (w' : World) : Prop :=
  e = .returned (.tuple #[]) ∧ ∃ rs', rs'.Perm rs ∧ rs'.Pairwise (fun a b => ¬ ltR b a) ∧ OwnR w' base v rs' ∧ Below base w w'
set_option maxHeartbeats 1000000 in
theorem rl_sort (rs : List Rl) (base : Nat) (v : Value) (w : World) (h : OwnR w base v rs) (hb : base ≤ w.heap.size) (hm : rs.length ≤ 1048576) :
    Calls Tryz.prog 44 #[v, .func (.func 45) #[] #[]] w (SortedR w base v rs) := by
  rcases h.2 with ⟨e1, -⟩ | ⟨blk, cap, cur, e1, hbl, -, hcn, -, -, -⟩
  · subst e1
    refine (AnyF.slices_SortFunc_none { Tryz.sortRel with } none 0 _ w).mono ?_
    rintro e w' ⟨he, rfl⟩
    have hx0 : rs = [] := by
      obtain ⟨a, c, e2⟩ := h.len
      have := (Value.slice.inj e2).2.1
      exact List.eq_nil_of_length_eq_zero this.symm
    subst hx0
    exact ⟨he, [], List.Perm.nil, List.Pairwise.nil, h, Below.refl _ _⟩
  · obtain ⟨a, c, e2⟩ := h.len
    rw [e1] at e2
    obtain ⟨-, h3, -⟩ := Value.slice.inj e2
    rw [h3] at e1
    subst e1
    rcases Nat.eq_zero_or_pos rs.length with h0 | h0
    · have hx0 : rs = [] := List.eq_nil_of_length_eq_zero h0
      subst hx0
      refine (AnyF.slices_SortFunc_none { Tryz.sortRel with } (some ⟨blk, 0, none⟩) cap _ w).mono ?_
      rintro e w' ⟨he, rfl⟩
      exact ⟨he, [], List.Perm.nil, List.Pairwise.nil, h, Below.refl _ _⟩
    · have eg : ∀ args w, (callFunc 45 args).run Tryz.prog w = .ok (.enter 45 args) w := enters_of Tryz.func45 (by kernel_rfl) rfl
      refine (sort_row Tryz.sortRel 11 Tryz.isAgg44 Tryz.sizeOf44 Rl.cs rl_len rl_one cmpR swoR 45 eg Rl.z rs base blk rs.length cap 44 w rfl h0 hm h
        (fun W _ x _ y _ => graph_byRefs x y W)).mono ?_
      rintro e w' ⟨he, ds', hp, hsd, hrow, hbar⟩
      refine ⟨he, ds', hp, hsd.imp fun h => (cmpR_ge _ _).1 h, ?_, hbar.below hb hbl⟩
      unfold OwnR
      rw [hp.length_eq]
      exact hrow
end Go.Proofs.YtaajpliifdlokaaGreatDoor
