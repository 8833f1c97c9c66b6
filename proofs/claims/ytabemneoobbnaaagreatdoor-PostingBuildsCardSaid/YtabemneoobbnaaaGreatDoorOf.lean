/- posting.indexed: the state of its first loop. posting.indexed: its first loop. -/
import Derived.Test.YtabemneoobbnaaaGreatDoorOd
namespace Go.Proofs.YtabemneoobbnaaaGreatDoor
open Go.RowKit

/-- a look-up in a map of groups, inside a region that draws -/
theorem step_lookup_groups {P : Program} {w : World} {ops : Array Oper} {o : Oper} {a : Act} {K' : Act → World → Prop} {Q : Exit → Act → World → Prop} {E' : Prop} (hgd : o.guard = none) (m x : Operand) (t : TypeId) (hop : o.op = Op.lookup t m x false)
    (k E e : TypeId) (K : Go.Maps.Keyed P k) (ht : P.underlying t = some (.map k E)) (hz : (zeroValue E).run P w = .ok (.slice none 0 0) w) (base b n : Nat) (D : DataW Unit)
    (hm : a.eval m = .map (some b)) (hown : w.ownsGroups P k base e .i64 b n D) (hn : n < maxLen) (key : Value) (kl : Lit) (hx : a.eval x = key) (hkey : keyOf P k key = some kl)
    (h : ∀ v zs, D.atKey kl .nil = rowDatum .i64 v zs → w.ownsInts base e .i64 v zs → K' (a.put o.dst v) w) :
    if Region.wanted o (yielded ops a.tmps) = true then Oper.wp P o a w K' Q else E' := by
  have hw : Region.wanted o (yielded ops a.tmps) = true := by simp [Region.wanted, hgd]
  rw [if_pos hw]
  obtain ⟨v, zs, hrun, hat, hoi, -, -⟩ := hown.at K ht hz hn hkey
  unfold Oper.wp
  simp [execOp, hop, hm, hx, hrun, Result.andThen]
  exact h v zs hat hoi

/-- entries and groups that grow -/
structure IxSt (w3 wr : World) (ib mb : Nat) (ve : Value) (es : List ((Int × Nat) × Nat)) (K : Nat) (F : ByteArray → List Nat) : Prop where
  os : wr.os = w3.os
  tape : wr.tape = w3.tape
  output : wr.output = w3.output
  size : w3.heap.size ≤ wr.heap.size
  keep : ∀ k, k < w3.heap.size → k ≠ ib → k ≠ mb → wr.heap[k]? = w3.heap[k]?
  box : BoxN wr ib 40 #[ve, .slice none 0 0, .slice none 0 0]
  own : wr.ownsRow w3.heap.size 49 3 ve es.length (flatK 3 es.length (entF es))
  grp : ∃ D : DataW Unit, wr.ownsGroups Tryz.prog 9 w3.heap.size 3 .i64 mb K D ∧ GrpOk D F
  lows : ib < mb ∧ mb < w3.heap.size
section
variable {w3 wr w' : World} {ib mb K : Nat} {ve : Value} {es : List ((Int × Nat) × Nat)} {F F' : ByteArray → List Nat}
theorem IxSt.start {w : World} (hb : BoxN w ib 40 #[.slice none 0 0, .slice none 0 0, .slice none 0 0]) : IxSt (w.alloc (.map #[] 0)) (w.alloc (.map #[] 0)) ib w.heap.size (.slice none 0 0) [] 0 (fun _ => []) :=
  ⟨rfl, rfl, rfl, Nat.le_refl _, fun _ _ _ _ => rfl, hb.alloc _, World.ownsRow_nil _ _ _ _, ⟨_, by rw [World.size_alloc]; exact World.ownsGroups_made w _ _ _ _, GrpOk.start⟩, hb.lt, by simp⟩
theorem IxSt.congr (h : IxSt w3 wr ib mb ve es K F) (e : ∀ s, F s = F' s) : IxSt w3 wr ib mb ve es K F' := by
  have : F = F' := funext e
  subst this
  exact h
theorem IxSt.later (h : IxSt w3 wr ib mb ve es K F) (hb : Below wr.heap.size wr w') : IxSt w3 w' ib mb ve es K F := by
  have hg : wr.grownBy w' none := ⟨hb.os, hb.tape, hb.output, hb.size, fun k hk _ => hb.block k hk⟩
  obtain ⟨D, h1, h2⟩ := h.grp
  refine ⟨hb.os.trans h.os, hb.tape.trans h.tape, hb.output.trans h.output, Nat.le_trans h.size hb.size, fun k h3 h4 h5 => (hb.block k (Nat.lt_of_lt_of_le h3 h.size)).trans (h.keep k h3 h4 h5), h.box.below hb h.box.lt, h.own.kept hg ?_, ⟨D, h1.kept hg (by simp) (fun es clock _ x _ => ?_), h2⟩, h.lows⟩
  · cases ve.ownBlock <;> simp
  · cases x.val.ownBlock <;> simp
theorem IxSt.ent (h : IxSt w3 wr ib mb ve es K F) {p m cap : Nat} {x : (Int × Nat) × Nat} (hm : m = es.length + 1)
    (hown : w'.ownsRow w3.heap.size 49 3 (.slice (some ⟨p, 0, none⟩) m cap) m (flatK 3 es.length (entF es) ++ [.int .i64 x.1.1, .int .i64 (x.1.2 : Int), .int .i64 (x.2 : Int)])) (hg : wr.grownBy w' ve.ownBlock) :
    IxSt w3 (w'.setCell ⟨ib, 0, none⟩ (.slice (some ⟨p, 0, none⟩) m cap)) ib mb (.slice (some ⟨p, 0, none⟩) m cap) (es ++ [x]) K F := by
  obtain ⟨D, h1, h2⟩ := h.grp
  have hv : ∀ k, ve.ownBlock = some k → w3.heap.size ≤ k := fun k hk => (h.own.lt k hk).1
  have hx : ∀ k, k < w3.heap.size → w'.heap[k]? = wr.heap[k]? := fun k hk => hg.block k (Nat.lt_of_lt_of_le hk h.size) (fun e => by have := hv k e.symm; omega)
  obtain ⟨l1, l2⟩ := h.lows
  have hg2 : w'.grownBy (w'.setCell ⟨ib, 0, none⟩ (.slice (some ⟨p, 0, none⟩) m cap)) (some ib) := ⟨rfl, rfl, rfl, by simp, fun k _ hk => Below.heap_setCell _ _ _ _ (fun e => hk (by rw [e]))⟩
  have h1' := h1.kept hg (fun e => by have := hv mb e.symm; omega) (groups_apart h1 h.own (by decide))
  refine ⟨hg.os.trans h.os, hg.tape.trans h.tape, hg.output.trans h.output, by have := hg.size; have := h.size; simp; omega, fun k h3 h4 h5 => (Below.heap_setCell _ _ _ _ h4).trans ((hx k h3).trans (h.keep k h3 h4 h5)), (show BoxN w' ib _ _ from (hx ib (by omega)).trans h.box).set 0 _, ?_, ⟨D, h1'.kept hg2 (fun e => by cases e; omega) (h1'.rowsAbove fun j hj => by cases hj; omega), h2⟩, h.lows⟩
  have e1 := ent_push es x
  rw [List.length_append, List.length_singleton, ← hm] at e1 ⊢
  rw [← e1]
  exact ownsRow_setCell_below hown (by show ib < w3.heap.size; omega) _
theorem IxSt.val (h : IxSt w3 wr ib mb ve es K F) {w1 w2 : World} {D' : DataW Unit} {v : Value} {zs : List Int} (ho : wr.ownsInts w3.heap.size 3 .i64 v zs) (hg : wr.grownBy w1 v.ownBlock) (hg2 : w1.grownBy w2 (some mb))
    (h1 : w2.ownsGroups Tryz.prog 9 w3.heap.size 3 .i64 mb (K + 1) D') (h2 : GrpOk D' F') : IxSt w3 w2 ib mb ve es (K + 1) F' := by
  have hv : ∀ k, v.ownBlock = some k → w3.heap.size ≤ k := fun k hk => (ho.1.lt k hk).1
  have hx : ∀ k, k < w3.heap.size → k ≠ mb → w2.heap[k]? = wr.heap[k]? := fun k hk hkm => (hg2.block k (Nat.lt_of_lt_of_le hk (Nat.le_trans h.size hg.size)) (fun e => by cases e; exact hkm rfl)).trans (hg.block k (Nat.lt_of_lt_of_le hk h.size) (fun e => by have := hv k e.symm; omega))
  obtain ⟨l1, l2⟩ := h.lows
  refine ⟨hg2.os.trans (hg.os.trans h.os), hg2.tape.trans (hg.tape.trans h.tape), hg2.output.trans (hg.output.trans h.output), Nat.le_trans h.size (Nat.le_trans hg.size hg2.size), fun k h3 h4 h5 => (hx k h3 h5).trans (h.keep k h3 h4 h5), (show BoxN w2 ib _ _ from (hx ib (by omega) (by omega)).trans h.box), ?_, ⟨D', h1, h2⟩, h.lows⟩
  refine (h.own.kept hg (own_apart h.own ho.1 (by decide))).kept hg2 ?_
  cases hb : ve.ownBlock with
  | none => exact .inl rfl
  | some k =>
    have := (h.own.lt k hb).1
    right
    intro e
    cases e
    omega
end

end Go.Proofs.YtabemneoobbnaaaGreatDoor

namespace Go.Proofs.YtabemneoobbnaaaGreatDoor
open Go.RowKit Go.WideMaps Go.Maps

theorem zero_ints (w : World) : (zeroValue 30).run Tryz.prog w = .ok (.slice none 0 0) w := by kernel_rfl
theorem key_str (s : ByteArray) (h : s.size ≤ maxLen) : keyOf Tryz.prog 9 (.string s) = some (keyL s) := keyOf_string_mk Tryz.underlying9 h

theorem groups_size {P : Program} {k e : TypeId} {base b n : Nat} {w : World} {D : DataW Unit} (h : w.ownsGroups P k base e .i64 b n D) : Go.Maps.size D ≤ n := by
  obtain ⟨es, clock, hb, F, hs, rfl, -⟩ := h
  rw [size_eq, length_sorted]
  simpa using hs
theorem inN_of_ints {w : World} {base : Nat} {e : TypeId} {v : Value} {zs : List Int} {xs : List Nat} (h : w.ownsInts base e .i64 v zs) (hz : zs = intsOf xs) : InN w (fun b => b < w.heap.size) v xs := by
  subst hz
  have h1 := h.1
  simp only [intsOf, List.length_map, List.map_map] at h1
  exact (inN_of_own (e := e) (base := base) h1).more fun b hb => (h1.lt b hb).2
theorem pgF_all (cs : List Cv) (s : ByteArray) : pgF cs cs.length 0 s = listOfV cs s := by
  unfold pgF
  rw [if_neg (by rw [hasL_iff]; simp)]
  simp [listOfV, listK]
theorem pgF_mem (cs : List Cv) (s : ByteArray) : pgF cs cs.length 0 s ≠ [] ↔ s ∈ allOf cs := by
  have e0 : pgF cs cs.length 0 s = listOfV cs s := by
    unfold pgF
    rw [if_neg (by rw [hasL_iff]; simp)]
    simp [listOfV, listK]
  rw [e0, all_mem]
  constructor
  · intro h
    obtain ⟨i, hi⟩ := List.exists_mem_of_ne_nil _ h
    have h2 := listOfV_mem.1 hi
    exact ⟨_, getD_mem h2.1 _, (hasL_iff _ _).1 h2.2⟩
  · rintro ⟨c, hc, hs⟩ h
    have h3 : s ∈ setOfL (allOf cs) := by rw [setOfL_mem_iff, all_mem]; exact ⟨c, hc, hs⟩
    have := listOfV_pos h3
    rw [h] at this
    exact absurd this (by simp)

/-- one more list of an index -/
theorem list_round {w7 wr w9 w8 : World} {O : Obj} {ib u a9 c9 p8 cap8 : Nat} {la : Option Addr} {lc : Nat} {lv : Nat → Value} {cs' : List Cv} {vs : List ByteArray} {xs : List Nat} {e0 e1 : Value} (h0 : 0 < w7.heap.size)
    (h7 : w7.grownBy wr (some ib)) (hbx : BoxN w8 ib 40 #[e0, e1, .slice la u lc])
    (hn : Nest 1 wr w7.heap.size 30 (.slice la u lc) u (fun i _ => lv i) (fun i w S => InN w S (lv i) (listOfV cs' (vs.getD i ⟨#[]⟩)))) (hb : Below wr.heap.size wr w9) (hx : listOfV cs' (vs.getD u ⟨#[]⟩) = xs)
    (h9 : w9.ownsRow wr.heap.size 3 1 (.slice (some ⟨a9, 0, none⟩) xs.length c9) xs.length (natsV xs))
    (h8 : w8.ownsRow w7.heap.size 30 1 (.slice (some ⟨p8, 0, none⟩) (u + 1) cap8) (u + 1) (flatK 1 u (fun i _ => lv i) ++ [.slice (some ⟨a9, 0, none⟩) xs.length c9]))
    (hg : (w9.alloc O).grownBy w8 (Value.slice la u lc).ownBlock) (hat : (Value.slice la u lc).ownBlock = some p8 ∨ p8 = (w9.alloc O).heap.size) (hib : ib < w7.heap.size) :
    w7.grownBy (w8.setCell ⟨ib, 2, none⟩ (.slice (some ⟨p8, 0, none⟩) (u + 1) cap8)) (some ib) ∧ BoxN (w8.setCell ⟨ib, 2, none⟩ (.slice (some ⟨p8, 0, none⟩) (u + 1) cap8)) ib 40 #[e0, e1, .slice (some ⟨p8, 0, none⟩) (u + 1) cap8] ∧
      ∃ lv' : Nat → Value, Nest 1 (w8.setCell ⟨ib, 2, none⟩ (.slice (some ⟨p8, 0, none⟩) (u + 1) cap8)) w7.heap.size 30 (.slice (some ⟨p8, 0, none⟩) (u + 1) cap8) (u + 1) (fun i _ => lv' i) (fun i w S => InN w S (lv' i) (listOfV cs' (vs.getD i ⟨#[]⟩))) := by
  have hA : Below wr.heap.size wr (w9.alloc O) := hb.alloc hb.size _
  have hla : ∀ k, (Value.slice la u lc).ownBlock = some k → w7.heap.size ≤ k ∧ k < wr.heap.size := fun k hk => hn.row.lt k hk
  have h9l := h9.lt a9 rfl
  have hN := hn.below (fun i _ => keeps_n _ _) hA (Nat.le_refl _) h0
  have hnew : InN (w9.alloc O) (Own (w9.alloc O) w7.heap.size (.slice la u lc)) (.slice (some ⟨a9, 0, none⟩) xs.length c9) xs :=
    (InK.keep (inN_of_own h9) fun p hp => by
      have e : a9 = p.block := by simpa [Value.ownBlock] using hp
      exact World.cell?_alloc_lt _ _ _ (by rw [← e]; exact h9l.2)).more fun b hbk => by
      have e : a9 = b := by simpa [Value.ownBlock] using hbk
      subst e
      refine ⟨Nat.le_trans h7.size h9l.1, by rw [World.size_alloc]; omega, fun e2 => ?_⟩
      have := (hla _ e2).2
      omega
  have hP := hN.push (w' := w8) (Q' := fun i w S => InN w S ((fun i => if i = u then .slice (some ⟨a9, 0, none⟩) xs.length c9 else lv i) i) (listOfV cs' (vs.getD i ⟨#[]⟩))) (f' := fun i _ => (fun i => if i = u then .slice (some ⟨a9, 0, none⟩) xs.length c9 else lv i) i) (fun i _ => keeps_n _ _) h8 hg hat (by
    simp only [if_pos]
    rw [hx]
    exact hnew) (keeps_n _ _) (fun i hi j _ => by simp [show i ≠ u by omega]) (by simp [List.range_succ]) (fun i hi => by simp [show i ≠ u by omega])
  refine ⟨⟨hg.os.trans (hA.os.trans h7.os), hg.tape.trans (hA.tape.trans h7.tape), hg.output.trans (hA.output.trans h7.output), ?_, fun k hk hki => ?_⟩, hbx.set 2 _, _, hP.setCell (fun i _ => keeps_n _ _) hib _⟩
  · rw [World.size_setCell]
    exact Nat.le_trans h7.size (Nat.le_trans hA.size hg.size)
  · have e1 : k ≠ ib := fun e => hki (by rw [e])
    have hkw := Nat.lt_of_lt_of_le hk h7.size
    rw [Below.heap_setCell _ _ _ _ e1, hg.block k (Nat.lt_of_lt_of_le hkw hA.size) (fun e => by have := (hla _ e.symm).1; omega), hA.block k hkw, h7.block k hk hki]

/-- an index that is whole -/
theorem index_done {w w7 wr W : World} {blk e3 vb q n : Nat} {va sa la : Option Addr} {vc sc lc : Nat} {lv : Nat → Value} {cs' : List Cv} {vs : List ByteArray}
    (hgw : w.grownBy w7 (some blk)) (hg7 : w7.grownBy wr (some (w.heap.size + 1))) (hk : ∀ k, k ≠ w.heap.size → W.heap[k]? = wr.heap[k]?) (hz : W.heap.size = wr.heap.size) (ho : W.os = wr.os ∧ W.tape = wr.tape ∧ W.output = wr.output)
    (he : w.heap.size + 1 < e3) (hv : w.heap.size + 1 < vb) (hvs : setOfL (allOf cs') = vs) (hn : vs.length = n) (hq : cs'.length = q)
    (hE : w7.ownsRow e3 49 3 (.slice va q vc) (entsOf cs').length (flatK 3 (entsOf cs').length (entF (entsOf cs')))) (hV : w7.ownsRow vb 9 1 (.slice sa n sc) n (vs.map Value.string)) (h7 : w.heap.size + 1 < w7.heap.size)
    (hL : Nest 1 wr w7.heap.size 30 (.slice la n lc) n (fun i _ => lv i) (fun i w S => InN w S (lv i) (listOfV cs' (vs.getD i ⟨#[]⟩)))) :
    RdIx W (fun b => w.heap.size ≤ b ∧ b < W.heap.size) (.slice va q vc) (.slice sa n sc) (.slice la n lc) (indexOf cs') ∧ w.grownBy W (some blk) := by
  subst hn hq
  have hcell : ∀ p : Addr, w.heap.size + 1 < p.block → p.block < w7.heap.size → W.cell? p = w7.cell? p := fun p h1 h2 => World.cell?_of_block ((hk _ (by omega)).trans (hg7.block _ h2 (fun e => by injection e with e; omega)))
  have hcell2 : ∀ p : Addr, w7.heap.size ≤ p.block → W.cell? p = wr.cell? p := fun p h1 => World.cell?_of_block (hk _ (by omega))
  have hz7 := hg7.size
  refine ⟨⟨?_, ?_, lv, ?_, ?_⟩, ⟨ho.1.trans (hg7.os.trans hgw.os), ho.2.1.trans (hg7.tape.trans hgw.tape), ho.2.2.trans (hg7.output.trans hgw.output), by have := hgw.size; omega, fun k h1 h2 => ?_⟩⟩
  · refine ((inK_of_owns hE).keep fun p hp => ?_).more fun b hb => ?_
    · have := hE.lt _ hp
      exact hcell p (by omega) (by omega)
    · have := hE.lt _ hb
      exact ⟨by omega, by omega⟩
  · rw [show (indexOf cs').vals = vs from hvs]
    refine InK.more (InK.keep (inS_of_own hV) fun p hp => ?_) fun b hb => ?_
    · have := hV.lt _ hp
      exact hcell p (by omega) (by omega)
    · have := hV.lt _ hb
      exact ⟨by omega, by omega⟩
  · rw [show (indexOf cs').lists.length = vs.length from by simp [indexOf, hvs]]
    refine InK.more (InK.keep (inK_of_owns hL.row) fun p hp => ?_) fun b hb => ?_
    · exact hcell2 p (hL.row.lt _ hp).1
    · have := hL.row.lt _ hb
      exact ⟨by omega, by omega⟩
  · intro i hi
    rw [show (indexOf cs').lists.length = vs.length from by simp [indexOf, hvs]] at hi
    rw [show (indexOf cs').lists.getD i [] = listOfV cs' (vs.getD i ⟨#[]⟩) from by simp [indexOf, hvs, List.getD, hi]]
    refine InK.more (InK.keep (hL.kids i hi) fun p hp => ?_) fun b hb => ?_
    · exact hcell2 p hp.1
    · exact ⟨by have := hb.1; omega, by have := hb.2.1; omega⟩
  · rw [hk k (by omega), hg7.block k (Nat.lt_of_lt_of_le h1 hgw.size) (fun e => by injection e with e; omega), hgw.block k h1 h2]

set_option maxRecDepth 100000 in
set_option maxHeartbeats 4000000 in
theorem posting_indexed (cs : List Cv) (base blk n cap : Nat) (w : World) (hn : cs.length = n) (hm : n ≤ 65536) (h : CvSt w base 96 (.slice (some ⟨blk, 0, none⟩) n cap) cs)
    (hset : ∀ c ∈ cs, Asc c.2) (hlen : ∀ c ∈ cs, c.2.length ≤ 4096) (hstr : ∀ c ∈ cs, ∀ s ∈ c.2, s.size ≤ maxLen) :
    Calls Tryz.prog 49 #[.slice (some ⟨blk, 0, none⟩) n cap] w (fun e w' => ∃ cs' ev vv lv, cs'.Perm cs ∧ cs'.Pairwise (fun a b => rlt (refZ b) (refZ a) = false) ∧ e = .returned (.agg #[ev, vv, lv]) ∧
      RdIx w' (fun b => w.heap.size ≤ b ∧ b < w'.heap.size) ev vv lv (indexOf cs') ∧ w.grownBy w' (some blk)) := by
  have hmm := @run_makeMap Tryz.prog
  obtain ⟨i0, hi, hz0, hz1, hz2⟩ := info_parts info_ent
  obtain ⟨j0, hj, hy0, hy1, hy2⟩ := info_parts info_int
  have hcv := ((CvB.of h).alloc (.cells #[.slice none 0 0, .slice none 0 0, .slice none 0 0] 40)).alloc (.cells #[.slice none 0 0, .slice none 0 0, .slice none 0 0] 40)
  have HSO := hid (posting_sort cs base w.heap.size blk n cap _ hn (by omega) hcv)
  have hbl : blk < w.heap.size := hcv.choose_spec.2.2
  clear h hcv
  go_enter Tryz.func49, Tryz.ntmps49
  generalize hLA : Code.loop _ = LA
  generalize hLB : Code.loop _ = LB
  go_wp2_with fail
  with_reducible refine HSO.out.mono ?_
  have HX0 := hid (BoxN.new (w.alloc (.cells #[.slice none 0 0, .slice none 0 0, .slice none 0 0] 40)) #[.slice none 0 0, .slice none 0 0, .slice none 0 0] 40)
  have HY0 := hid ((BoxN.new w #[.slice none 0 0, .slice none 0 0, .slice none 0 0] 40).alloc (.cells #[.slice none 0 0, .slice none 0 0, .slice none 0 0] 40))
  have HG0 := hid ((World.grownBy_alloc w (.cells #[.slice none 0 0, .slice none 0 0, .slice none 0 0] 40) (some blk)).trans (World.grownBy_alloc _ (.cells #[.slice none 0 0, .slice none 0 0, .slice none 0 0] 40) (some blk)))
  have hz0' : ((w.alloc (.cells #[.slice none 0 0, .slice none 0 0, .slice none 0 0] 40)).alloc (.cells #[.slice none 0 0, .slice none 0 0, .slice none 0 0] 40)).heap.size = w.heap.size + 2 := by simp
  rw [World.size_alloc] at HX0
  clear HSO
  generalize (w.alloc (.cells #[.slice none 0 0, .slice none 0 0, .slice none 0 0] 40)).alloc (.cells #[.slice none 0 0, .slice none 0 0, .slice none 0 0] 40) = W0 at *
  rintro e w2 ⟨rfl, cs', hperm, hpw, hrd, hg⟩
  have HX2 := hid (HX0.out.grown hg (fun e => by cases e; omega))
  have HY2 := hid (HY0.out.grown hg (fun e => by cases e; omega))
  have HG2 := hid (HG0.out.trans hg)
  have hz2' : w.heap.size + 2 ≤ w2.heap.size := by have := hg.size; omega
  have hn' : cs'.length = n := hperm.length_eq.trans hn
  have HSET := hid (fun c (hc : c ∈ cs') => hset c (hperm.mem_iff.1 hc))
  have HLEN := hid (fun c (hc : c ∈ cs') => hlen c (hperm.mem_iff.1 hc))
  have HSTR := hid (fun c (hc : c ∈ cs') => hstr c (hperm.mem_iff.1 hc))
  have HPW := hid hpw
  have HPERM := hid hperm
  have HRD := hid hrd
  have HN := hid hn'
  clear hg hn' hset hlen hstr hpw hperm hrd HX0 HY0 HG0
  go_wp2_with fail
  have HI0 := hid (IxSt.start HX2.out)
  have HY3 := hid (HY2.out.alloc (.map #[] 0))
  obtain ⟨vv, ⟨ra, rc, hre, hrc, hrm, hrr⟩, hkids⟩ := HRD.out
  obtain ⟨rfl, -, rfl⟩ : some (⟨blk, 0, none⟩ : Addr) = ra ∧ n = cs'.length ∧ cap = rc := by cases hre; exact ⟨rfl, HN.out.symm, rfl⟩
  have HCELL : Hid (∀ i, i < n → w2.cell? ⟨blk, i * 3, none⟩ = some (.int .i64 (cs'.getD i Cv.z).1.1) ∧ w2.cell? ⟨blk, i * 3 + 1, none⟩ = some (.int .i64 ((cs'.getD i Cv.z).1.2 : Int)) ∧ w2.cell? ⟨blk, i * 3 + 2, none⟩ = some (vv i)) := hid (fun i hi => by
    have hnn := HN.out
    obtain ⟨b, o, e1, hb, hc⟩ := hrr (by omega)
    cases e1
    have d0 := hc i (by omega) 0 (by omega)
    have d1 := hc i (by omega) 1 (by omega)
    have d2 := hc i (by omega) 2 (by omega)
    simp only [Nat.zero_add, Nat.add_zero] at d0 d1 d2
    exact ⟨d0, d1, d2⟩)
  have HKID := hid hkids
  clear hre hrc hrm hrr hkids
  have HW3 : Hid (∀ (wr : World) (ve : Value) (es : List ((Int × Nat) × Nat)) (K : Nat) (F : ByteArray → List Nat), IxSt (w2.alloc (.map #[] 0)) wr (w.heap.size + 1) w2.heap.size ve es K F → ∀ p : Addr, p.block < w.heap.size → wr.cell? p = w2.cell? p) := hid (fun wr _ _ _ _ h p hp => by
    have e1 : wr.heap[p.block]? = (w2.alloc (.map #[] 0)).heap[p.block]? := h.keep _ (by simp; omega) (by omega) (by omega)
    exact (World.cell?_of_block e1).trans (World.cell?_alloc_lt _ _ _ (by omega)))
  have hz3 : (w2.alloc (.map #[] 0)).heap.size = w2.heap.size + 1 := by simp
  have HOS3 : Hid ((w2.alloc (.map #[] 0)).os = w2.os ∧ (w2.alloc (.map #[] 0)).tape = w2.tape ∧ (w2.alloc (.map #[] 0)).output = w2.output ∧ ∀ k, k < w2.heap.size → (w2.alloc (.map #[] 0)).heap[k]? = w2.heap[k]?) := hid ⟨rfl, rfl, rfl, fun k hk => Below.heap_alloc w2 (.map #[] 0) k hk⟩
  generalize w2.alloc (.map #[] 0) = w3 at *
  have HZ3 := hid hz3
  have hz3l : w2.heap.size < w3.heap.size := by omega
  clear hz3
  generalize hmb : w2.heap.size = mb at *
  have HMB := hid hmb
  clear hmb
  subst hLA
  go_loopg [16] n (fun N i wr => ∃ (q : Nat) (va : Option Addr) (vc K : Nat), q + N = n ∧ i = .int .i64 (q : Int) ∧ K ≤ q * 4096 ∧ Hid (IxSt w3 wr (w.heap.size + 1) mb (.slice va q vc) (entsOf (cs'.take q)) K (pgF cs' q 0)))
  case atStart => exact ⟨0, none, 0, 0, by omega, rfl, by omega, hid (HI0.out.congr fun s => (pgF_zero cs' s).symm)⟩
  case round =>
    obtain ⟨q, va, vc, K, hq, rfl, hK, HST⟩ := hrel
    by_cases hpq : 0 < gk
    · obtain ⟨c0, c1, c2⟩ := HCELL.out q (by omega)
      have d0 := (HW3.out _ _ _ _ _ HST.out ⟨blk, q * 3, none⟩ hbl).trans c0
      have d1 := (HW3.out _ _ _ _ _ HST.out ⟨blk, q * 3 + 1, none⟩ hbl).trans c1
      have d2 := (HW3.out _ _ _ _ _ HST.out ⟨blk, q * 3 + 2, none⟩ hbl).trans c2
      have HKQ0 := HKID.out q (by have := HN.out; omega)
      obtain ⟨xa, xc, hvq, -⟩ := HKQ0
      have hKQ := HKID.out q (by have := HN.out; omega)
      rw [hvq] at d2 hKQ
      have HKQ := hid hKQ
      have hmem : cs'.getD q Cv.z ∈ cs' := getD_mem (by have := HN.out; omega) _
      have HSQ := hid (HSTR.out _ hmem)
      have HAQ := hid (HSET.out _ hmem)
      have hlq := HLEN.out _ hmem
      have HSTEP := hid (fun j (hj : j < (cs'.getD q Cv.z).2.length) s => pgF_step (cs := cs') (q := q) HAQ.out hj s)
      have HEND := hid (fun s => pgF_end (cs := cs') (q := q) s)
      have HEN := hid (ents_take (cs := cs') (k := q) (by have := HN.out; omega))
      have HEL : Hid ((entsOf (cs'.take q)).length = q) := hid (by rw [ents_len, List.length_take]; have := HN.out; omega)
      clear c0 c1 c2 hvq hKQ hmem
      generalize (cs'.getD q Cv.z) = c at *
      obtain ⟨⟨ri, rk⟩, X⟩ := c
      simp only at d0 d1 d2 hlq
      generalize hxl : X.length = xl at *
      have HXL := hid hxl
      clear hxl
      generalize entsOf (cs'.take q) = es at *
      have HST2 := hid (HST.out.later ((Below.refl _ _).alloc (Nat.le_refl _) (.cells #[.int .i64 ri, .int .i64 (rk : Int), .slice xa xl xc] 96)))
      have HBX := hid (BoxN.new wr #[.int .i64 ri, .int .i64 (rk : Int), .slice xa xl xc] 96)
      have s0 := HST.out.box.cell 0 rfl
      have s1 := HST2.out.box.cell 0 rfl
      have how0 := HST2.out.own
      rw [HEL.out] at how0
      have HOW := hid how0
      have hsz := HST2.out.size
      have hwz2 : (wr.alloc (.cells #[.int .i64 ri, .int .i64 (rk : Int), .slice xa xl xc] 96)).heap.size = wr.heap.size + 1 := by simp
      have hibl : w.heap.size + 1 < wr.heap.size := HST.out.box.lt
      clear how0
      obtain ⟨wo, rfl⟩ : ∃ wo, wo = wr := ⟨wr, rfl⟩
      obtain ⟨ko, rfl⟩ : ∃ ko, ko = gk := ⟨gk, rfl⟩
      generalize hLC : Code.loop _ = LC
      go_wp2_with (first | (at_builtin; refine wpList_append_form _ rfl (.tmp 22) (.tmp 29) 37 37 rfl w3.heap.size 49 49 i0 (.agg #[.int .i64 0, .int .i64 0, .int .i64 0]) 3 24 Tryz.underlying37 Tryz.underlying37 hi hz0 hz1 hz2 rfl (by decide) (.slice va q vc) q (flatK 3 q (entF es)) rfl (HOW.out.alloc _) (some ⟨_, 0, none⟩) 1 1 [.int .i64 ri, .int .i64 (rk : Int), .int .i64 (xl : Int)] rfl rfl (fun _ => ⟨_, rfl, cell_three_at _ _ _ _ (by simp)⟩) (by intro u hu; simp at hu; rcases hu with rfl | rfl | rfl <;> rfl) (by omega) (by unfold maxLen; omega) (by omega) (by simp; omega) ?_; intro p7 cap7 w7 hown7 hg7 hat7 hlt7; have HOWN7 := hid hown7; have HG7 := hid ((World.grownBy_alloc _ _ _).trans hg7); have hbx7 := (((HBX.out.alloc (.cells #[.int .i64 ri, .int .i64 (rk : Int), .int .i64 (xl : Int)] 49)).grown hg7 (fun e => by have := (HST.out.own.lt _ e.symm).2; omega))); have hcx7 := ((HST2.out.box.alloc (.cells #[.int .i64 ri, .int .i64 (rk : Int), .int .i64 (xl : Int)] 49)).grown hg7 (fun e => by have := (HOW.out.lt _ e.symm).1; omega)); have q0 := hcx7.cell 0 rfl; have fq0 := hcx7.frozen 0; have r2 := (hbx7.other (p := ⟨w.heap.size + 1, 0, none⟩) (by show w.heap.size + 1 ≠ _; omega) (.slice (some ⟨p7, 0, none⟩) (q + 1) cap7)).cell 2 rfl; clear hown7 hg7 hat7 hbx7 hcx7))
      have HST8 := hid (HST2.out.ent (x := ((ri, rk), xl)) (m := q + 1) (by rw [HEL.out]) (by rw [HEL.out]; exact HOWN7.out) HG7.out)
      clear s0 s1 q0 fq0 r2 d0 d1 d2 hwz2 hibl hsz
      generalize w7.setCell ⟨w.heap.size + 1, 0, none⟩ (.slice (some ⟨p7, 0, none⟩) (q + 1) cap7) = w8 at *
      rw [← HEN.out] at HST8
      subst hLC
      go_loopg [35] xl (fun N i wr => ∃ (j K : Nat), j + N = xl ∧ i = .int .i64 (j : Int) ∧ K ≤ q * 4096 + j ∧ Hid (IxSt w3 wr (w.heap.size + 1) mb (.slice (some ⟨p7, 0, none⟩) (q + 1) cap7) (entsOf (cs'.take (q + 1))) K (pgF cs' q j)))
      case atStart => exact ⟨0, K, by omega, rfl, by omega, hid HST8.out⟩
      case round =>
        obtain ⟨j, K', hj', rfl, hK', HSJ⟩ := hrel
        by_cases hpj : 0 < gk
        · obtain ⟨xa', xc', exa, -, -, hxr⟩ := HKQ.out
          obtain ⟨rfl, -, rfl⟩ := Value.slice.inj exa
          obtain ⟨b6, o6, rfl, hb6, hc6⟩ := hxr (by have := HXL.out; omega)
          have hb6' : b6 < w.heap.size := hb6
          have t0 : wr.cell? ⟨b6, o6 + j, none⟩ = some (.string (X.getD j ⟨#[]⟩)) := (HW3.out _ _ _ _ _ HSJ.out ⟨b6, o6 + j, none⟩ hb6').trans (by have h9 := hc6 j (by have := HXL.out; omega) 0 (by omega); simp only [Nat.mul_one, Nat.add_zero] at h9; exact h9)
          have hsz := HSQ.out (X.getD j ⟨#[]⟩) (getD_mem (by have := HXL.out; omega) _)
          have HSP := hid (HSTEP.out j (by have := HXL.out; omega))
          clear exa hxr hc6
          generalize X.getD j ⟨#[]⟩ = t at *
          have hkey := key_str t hsz
          obtain ⟨D, hown, hok⟩ := HSJ.out.grp
          have HOK := hid hok
          clear hok
          have hws := HSJ.out.size
          go_wp2_with (first
            | (at_lookup; refine wpList_lookup_groups _ rfl _ _ 141 rfl 9 30 3 .i64 law_str Tryz.underlying141 (zero_ints _) w3.heap.size mb K' D rfl hown (by unfold maxLen; omega) _ _ rfl hkey ?_; intro v zs hat hoi hzl hback)
            | (at_builtin; refine wpList_append_own_at _ rfl _ _ 30 rfl w3.heap.size 3 j0 (.int .i64 0) 1 8 Tryz.underlying30 hj hy0 hy1 hy2 rfl (by decide) _ _ _ rfl (hoi.1.alloc _) ⟨wr.heap.size, 0, none⟩ 1 1 [.int .i64 q] rfl rfl (cell_one_new _ _ _) (ints_oneCell .i64 [(q : Int)]) (by unfold maxLen; omega) (by omega) (by simp; omega) ?_; intro v' w1 hown' hgrow hnil hloc)
            | (at_mapUpdate; refine wpList_mapUpdate_back _ rfl _ _ _ 141 rfl hback rfl rfl rfl ((World.grownBy_alloc _ _ _).trans hgrow) (hoi.appended hown' (WalkArith.wf_i64 (by omega))) (by simp; omega) (hloc.imp id (fun h => ⟨_, h, by simp⟩)) ?_; intro w5 hown5 hgrow5)
            | go_in)
          have hap := hoi.appended hown' (WalkArith.wf_i64 (by omega))
          have hzs := HOK.out.given hat hoi
          have HOK5 := hid (HOK.out.push (s := t) (i := q) (d := rowDatum .i64 v' (zs ++ [(q : Int)])) (by rw [hap.datum_pos (by simp), hzs]; simp [intsOf]))
          have HSJ5 := hid (HSJ.out.val hoi ((World.grownBy_alloc _ _ _).trans hgrow) hgrow5 hown5 HOK5.out)
          go_roundg (gk - 1)
          case rel => exact ⟨j + 1, K' + 1, by omega, by go_num, by omega, hid (HSJ5.out.congr fun s => HSP.out s)⟩
          case measure => omega
        · obtain rfl : j = xl := by omega
          go_wp2_with fail
          go_roundg (ko - 1)
          case rel => exact ⟨q + 1, _, _, K', by omega, by go_num, by omega, hid (HSJ.out.congr fun s => HEND.out s)⟩
          case measure => omega
    · obtain rfl : q = n := by omega
      have HTK : Hid (cs'.take q = cs') := hid (by rw [← HN.out, List.take_length])
      rw [HTK.out] at HST
      obtain ⟨D, hgr, hok⟩ := HST.out.grp
      have hsd := groups_size hgr
      have hXX : ∀ s, pgF cs' q 0 s ≠ [] ↔ s ∈ allOf cs' := fun s => by rw [← HN.out]; exact pgF_mem cs' s
      have HSOR := hid (lib_Sorted mb K D _ wr (groups_map hgr) (by omega))
      have HKS := hid (fun (ss : List (List UInt8)) (hp : ss.Perm (strKeys D)) => keys_sorted hok (groups_map hgr) (allOf cs') hXX hp)
      have HBM := hid ((Below.refl wr.heap.size wr).alloc (Nat.le_refl _) (.cells #[.map (some mb)] 141))
      have hibl : w.heap.size + 1 < wr.heap.size := HST.out.box.lt
      clear hgr hok hXX
      go_wp2_with (first | (go_at_call 91; refine (lib_Keys _ _).mono ?_; rintro e w5 ⟨rfl, rfl⟩) | fail)
      with_reducible refine HSOR.out.mono ?_
      rintro e w6 ⟨v, ss, rfl, hp6, hown6, hb6⟩
      have hss := HKS.out ss hp6
      have hsl : ss.length = (setOfL (allOf cs')).length := by have := congrArg List.length hss; simpa using this
      rw [hss, hsl, List.map_map, show (encStr ∘ listOf) = Value.string from funext fun a => by cases a; rfl] at hown6
      have HOWN6 := hid hown6
      have HST6 := hid ((HST.out.later HBM.out).later hb6)
      have HB6 := hid hb6
      have HHS := hid hsl
      clear hss hsl hp6 hown6 hb6
      obtain ⟨sa, sc, rfl⟩ := own_slice HOWN6.out
      have g1 := HST6.out.box.frozen 1
      have g0 := HST6.out.box.cell 1 rfl
      have HX7 := hid (HST6.out.box.set 1 (.slice sa (setOfL (allOf cs')).length sc))
      have x1 := HX7.out.cell 1 rfl
      generalize hvs : setOfL (allOf cs') = vs at *
      have HVS := hid hvs
      clear hvs
      go_wp2_with fail
      clear g1 g0 x1
      have HG67 : Hid (w6.grownBy (w6.setCell ⟨w.heap.size + 1, 1, none⟩ (.slice sa vs.length sc)) (some (w.heap.size + 1))) := hid ⟨rfl, rfl, rfl, by simp, fun k _ hk => Below.heap_setCell _ _ _ _ (fun e => hk (by rw [e]))⟩
      obtain ⟨D6, hgr6, hok6⟩ := HST6.out.grp
      have hl6 := HST6.out.lows
      have hs6 := HST6.out.size
      have HGR := hid (hgr6.kept HG67.out (fun e => by cases e; omega) (hgr6.rowsAbove fun j hj => by cases hj; omega))
      have HOK6 := hid hok6
      have HENT := hid (ownsRow_setCell_below (a := ⟨w.heap.size + 1, 1, none⟩) HST6.out.own (by show w.heap.size + 1 < w3.heap.size; omega) (.slice sa vs.length sc))
      have HVAL := hid (ownsRow_setCell_below (a := ⟨w.heap.size + 1, 1, none⟩) HOWN6.out (by show w.heap.size + 1 < _; simp; omega) (.slice sa vs.length sc))
      have hz67 : (w6.setCell ⟨w.heap.size + 1, 1, none⟩ (.slice sa vs.length sc)).heap.size = w6.heap.size := by simp
      have hwx : w3.heap.size ≤ (wr.alloc (.cells #[.map (some mb)] 141)).heap.size := by have := HST.out.size; simp; omega
      have hvbl : w.heap.size + 1 < (wr.alloc (.cells #[.map (some mb)] 141)).heap.size := by simp; omega
      have hk6 := HST6.out.keep
      have hl1 := HST6.out.lows.1
      have hl2 := HST6.out.lows.2
      have HY7 := hid ((show BoxN w6 w.heap.size 40 #[.slice none 0 0, .slice none 0 0, .slice none 0 0] from (hk6 w.heap.size (by omega) (by omega) (by omega)).trans HY3.out).grown HG67.out (fun e => by injection e with e; omega))
      have HGW7 : Hid (w.grownBy (w6.setCell ⟨w.heap.size + 1, 1, none⟩ (.slice sa vs.length sc)) (some blk)) := hid ⟨HST6.out.os.trans (HOS3.out.1.trans HG2.out.os), HST6.out.tape.trans (HOS3.out.2.1.trans HG2.out.tape), HST6.out.output.trans (HOS3.out.2.2.1.trans HG2.out.output), by rw [World.size_setCell]; have := HG2.out.size; omega, fun k hk hkb => (Below.heap_setCell _ _ _ _ (by show k ≠ w.heap.size + 1; omega)).trans ((hk6 k (by omega) (by omega) (by omega)).trans ((HOS3.out.2.2.2 k (by omega)).trans (HG2.out.block k hk hkb)))⟩
      clear hgr6 hok6 hk6 hl1 hl2
      generalize w6.setCell ⟨w.heap.size + 1, 1, none⟩ (.slice sa vs.length sc) = w7 at *
      generalize (wr.alloc (.cells #[.map (some mb)] 141)).heap.size = vb at *
      obtain ⟨y0, hyi, hyz0, hyz1, hyz2⟩ := info_parts info_sl
      have HLL := hid (fun s => listOfV_len cs' s)
      have HLP := hid (fun (s : ByteArray) (hs : s ∈ vs) => listOfV_pos (cs := cs') (v := s) (by rw [HVS.out]; exact hs))
      have HSTR2 := hid (fun (s : ByteArray) (hs : s ∈ vs) => (show s.size ≤ maxLen from by
        rw [← HVS.out, setOfL_mem_iff, all_mem] at hs
        obtain ⟨c, hc, hs⟩ := hs
        exact HSTR.out c hc s hs))
      have hvn : vs.length ≤ 268435456 := by
        rw [← HVS.out]
        have h1 := setOfL_len (allOf cs')
        have h2 := all_len (m := 4096) HLEN.out
        have h3 := HN.out
        omega
      have HX7' : Hid (BoxN w7 (w.heap.size + 1) 40 #[.slice va q vc, .slice sa vs.length sc, .slice none 0 0]) := hid HX7.out
      have HZ67 := hid hz67
      clear hz67
      have hz67 : w3.heap.size ≤ w7.heap.size := by have := HZ67.out; omega
      subst hLB
      go_loopg [56] vs.length (fun N i wr => ∃ (u : Nat) (la : Option Addr) (lc : Nat), u + N = vs.length ∧ i = .int .i64 (u : Int) ∧ Hid (w7.grownBy wr (some (w.heap.size + 1)) ∧ BoxN wr (w.heap.size + 1) 40 #[.slice va q vc, .slice sa vs.length sc, .slice la u lc] ∧ ∃ lv : Nat → Value, Nest 1 wr w7.heap.size 30 (.slice la u lc) u (fun i _ => lv i) (fun i w S => InN w S (lv i) (listOfV cs' (vs.getD i ⟨#[]⟩)))))
      case atStart => exact ⟨0, none, 0, by omega, rfl, hid ⟨⟨rfl, rfl, rfl, Nat.le_refl _, fun _ _ _ => rfl⟩, HX7'.out, fun _ => .bool false, Nest.start (Nat.le_refl _)⟩⟩
      case round =>
        obtain ⟨u, la, lc, hu, rfl, HSL⟩ := hrel
        have hg7 := HSL.out.1
        have HGW := hid hg7
        have hgrw := HGR.out.kept hg7 (fun e => by cases e; omega) (HGR.out.rowsAbove fun j hj => by cases hj; omega)
        by_cases hpu : 0 < gk
        · obtain ⟨sg, sc', esg, hsg, -⟩ := HVAL.out.form (by omega)
          obtain ⟨rfl, -, rfl⟩ := Value.slice.inj esg
          have hsl := HVAL.out.lt sg rfl
          have t0 : wr.cell? ⟨sg, u, none⟩ = some (.string (vs.getD u ⟨#[]⟩)) := (World.cell?_of_block (hg7.block _ hsl.2 (fun e => by have h8 := hsl.1; have h9 : sg = w.heap.size + 1 := (by injection e); omega))).trans ((HVAL.out.cellAt u (by omega)).trans (smap_get (by omega)))
          have hmem : vs.getD u ⟨#[]⟩ ∈ vs := getD_mem (by omega) _
          have hkey := key_str _ (HSTR2.out _ hmem)
          have hlp := HLP.out _ hmem
          have hll := HLL.out (vs.getD u ⟨#[]⟩)
          obtain ⟨lv, hnest⟩ := HSL.out.2.2
          have HNEST := hid hnest
          have HROW := hid hnest.row
          have hlow := hnest.low
          have x2 := HSL.out.2.1.cell 2 rfl
          have HGD := hid (fun k => (show (wr.drewN k).ownsGroups Tryz.prog 9 w3.heap.size 3 .i64 mb K D6 from hgrw))
          have HGW2 := hid hgrw
          have hKm : K < maxLen := by unfold maxLen; omega
          have HKM := hid hKm
          clear hgrw hnest hKm
          have HPA : Hid (pgF cs' q 0 (vs.getD u ⟨#[]⟩) = listOfV cs' (vs.getD u ⟨#[]⟩)) := hid (by rw [← HN.out]; exact pgF_all cs' _)
          generalize hsg : vs.getD u ⟨#[]⟩ = s at *
          have HSG := hid hsg
          clear hsg
          obtain ⟨ux, zs, hrun, hat, hoi, -, -⟩ := World.ownsGroups.at (w := wr.drew) (HGD.out 1) law_str Tryz.underlying141 (zero_ints _) HKM.out hkey
          have HU := hid (inN_of_ints hoi ((HOK6.out.given hat hoi).trans (by rw [HPA.out])))
          have HCL := hid (fun W (hW : Below wr.heap.size wr W) => lib_CloneN ux _ wr.heap.size W (InK.keep HU.out fun p (hp : p.block < wr.heap.size) => hW.cell (p := p) hp) hlp (by have := HN.out; omega))
          have HROWW := hid (fun W (hW : Below wr.heap.size wr W) => (HNEST.out.below (fun i _ => keeps_n _ _) hW (Nat.le_refl _) (by omega)).row)
          have HBXW := hid (fun W (hW : Below wr.heap.size wr W) => HSL.out.2.1.below hW HSL.out.2.1.lt)
          obtain ⟨ua, uc, hux, -⟩ := HU.out
          subst hux
          clear hat hoi
          go_wp2_with fail
          have HXR := hid HSL.out.2.1
          go_region_law (first
              | (go_simp; go_at_call 42; go_must (((with_reducible refine (HCL.out _ (by have := Below.refl wr.heap.size wr; repeat' (first | (with_reducible exact Below.refl _ _) | (with_reducible assumption) | (with_reducible refine below_drewN ?_) | (with_reducible refine Below.alloc ?_ ?_ _) | (with_reducible refine Below.drew ?_) | (with_reducible refine Below.setCell ?_ ?_ _) | (with_reducible refine Below.trans ?_ (Below.mono (by with_reducible assumption) ?_)) | go_size))).mono ?_); rintro e w9 ⟨a9, c9, rfl, hown9, hb9⟩; have n0 := cell_later hb9 (a := ⟨w.heap.size + 1, 2, none⟩) (v := .slice la u lc) (by go_cell); have hz9 := hb9.size; (try simp at hz9); have n1 := (World.cell?_alloc_lt w9 (.cells #[.slice (some ⟨a9, 0, none⟩) (listOfV cs' s).length c9] 30) ⟨w.heap.size + 1, 2, none⟩ (by show w.heap.size + 1 < _; have := HXR.out.lt; omega)).trans n0; have HOWN9 := hid hown9; have HB9 := hid hb9; clear hown9 hb9)))
              | ((refine step_append_form _ rfl (.tmp 61) (.tmp 66) 38 38 rfl w7.heap.size 30 30 y0 (.slice none 0 0) 1 24 Tryz.underlying38 Tryz.underlying38 hyi hyz0 hyz1 hyz2 rfl (by decide) (.slice la u lc) u _ rfl (HROWW.out _ (by have h1 := Below.refl wr.heap.size wr; have h2 := HB9.out; repeat' (first | (with_reducible exact Below.refl _ _) | (with_reducible assumption) | (with_reducible refine below_drewN ?_) | (with_reducible refine Below.alloc ?_ ?_ _) | (with_reducible refine Below.drew ?_) | (with_reducible refine Below.setCell ?_ ?_ _) | (with_reducible refine Below.trans ?_ (Below.mono (by with_reducible assumption) ?_)) | go_size))) (some ⟨_, 0, none⟩) 1 1 [.slice (some ⟨a9, 0, none⟩) (listOfV cs' s).length c9] rfl rfl (fun _ => ⟨_, rfl, cell_one_new _ _ _⟩) (by intro u hu; simp at hu; subst hu; rfl) (by omega) (by unfold maxLen; omega) (by omega) (by simp; omega) ?_); intro p8 cap8 w8 hown8 hg8 hat8 hlt8; have hbx8 := (HBXW.out _ (by have h1 := Below.refl wr.heap.size wr; have h2 := HB9.out; repeat' (first | (with_reducible exact Below.refl _ _) | (with_reducible assumption) | (with_reducible refine below_drewN ?_) | (with_reducible refine Below.alloc ?_ ?_ _) | (with_reducible refine Below.drew ?_) | (with_reducible refine Below.setCell ?_ ?_ _) | (with_reducible refine Below.trans ?_ (Below.mono (by with_reducible assumption) ?_)) | go_size))).grown hg8 (fun e => by have := (HROW.out.lt _ e.symm).1; omega); have m0 := hbx8.cell 2 rfl; have m1 := hbx8.frozen 2; have HOWN8 := hid hown8; have HG8 := hid hg8; have HAT8 := hid hat8; have HBX8 := hid hbx8; clear hown8 hg8 hat8 hbx8))
          all_goals
            have HRD8 := hid (list_round (by omega) HGW.out HBX8.out HNEST.out (by exact (below_drewN (Below.refl _ _) : Below wr.heap.size wr (wr.drewN 1)).trans HB9.out) (xs := listOfV cs' s) (by rw [HSG.out]) HOWN9.out HOWN8.out HG8.out HAT8.out (by omega))
            clear n0 n1 m0 m1 x2 t0 hrun
            go_wp2
            go_roundg (gk - 1)
            case rel => exact ⟨u + 1, _, _, by omega, by go_num, hid HRD8.out⟩
            case measure => omega
        · obtain rfl : u = vs.length := by omega
          have HYR := hid (HY7.out.grown hg7 (fun e => by injection e with e; omega))
          have x0 := HSL.out.2.1.cell 0 rfl
          have x1 := HSL.out.2.1.cell 1 rfl
          have x2 := HSL.out.2.1.cell 2 rfl
          have y1 := HYR.out.cell 0 rfl
          have y2 := HYR.out.cell 1 rfl
          have y3 := HYR.out.cell 2 rfl
          have z1 := HYR.out.frozen 0
          have z2 := HYR.out.frozen 1
          have z3 := HYR.out.frozen 2
          go_wp2_with fail
          obtain ⟨lv, hnest⟩ := HSL.out.2.2
          obtain ⟨hr1, hr2⟩ := index_done (W := ((wr.setCell ⟨w.heap.size, 0, none⟩ (.slice va q vc)).setCell ⟨w.heap.size, 1, none⟩ (.slice sa vs.length sc)).setCell ⟨w.heap.size, 2, none⟩ (.slice la vs.length lc)) HGW7.out hg7
            (fun k hk => (Below.heap_setCell _ _ _ _ hk).trans ((Below.heap_setCell _ _ _ _ hk).trans (Below.heap_setCell _ _ _ _ hk))) (by simp) ⟨rfl, rfl, rfl⟩ (by omega) (by omega) HVS.out rfl HN.out HENT.out HVAL.out (by omega) hnest
          refine bodyPost_ret (v := .agg #[.slice va q vc, .slice sa vs.length sc, .slice la vs.length lc]) ?_ rfl ?_
          · have q0 := (HYR.out.set 0 (.slice va q vc)).set 1 (.slice sa vs.length sc) |>.set 2 (.slice la vs.length lc)
            have r0 := q0.cell 0 rfl
            have r1 := q0.cell 1 rfl
            have r2 := q0.cell 2 rfl
            clear x0 x1 x2 y1 y2 y3 z1 z2 z3 q0
            simp [results, Tryz.results49, go_sem, r0, r1, r2]
          · exact ⟨cs', _, _, _, HPERM.out, HPW.out, rfl, hr1, hr2⟩

end Go.Proofs.YtabemneoobbnaaaGreatDoor
