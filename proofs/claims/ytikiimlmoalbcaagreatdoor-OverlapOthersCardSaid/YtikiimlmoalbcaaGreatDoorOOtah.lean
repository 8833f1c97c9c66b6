/- Contract of the reference's index of columns. -/
import Derived.Test.YtikiimlmoalbcaaGreatDoorOOtag
set_option linter.unusedVariables false
set_option linter.unusedSimpArgs false
namespace Go.Proofs.YtikiimlmoalbcaaGreatDoor
open Go.RowKit
theorem wpList_append_zero {P : Program} {w : World} {ops : Array Oper} {rest : List Oper} {o : Oper} {a : Act} {Q : Exit → Act → World → Prop} (hgd : o.guard = none) (s x : Operand) (t tx : TypeId)
    (ho : o.op = .call { callee := .builtin .append, args := #[s, x], argTypes := #[t, tx] }) (e e' : TypeId) (i : TypeInfo) (ht : P.underlying t = some (.slice e)) (hk : P.underlying tx = some (.slice e')) (hi : P.info? e = some i)
    (base : Option Addr) (n cap : Nat) (hs : a.eval s = .slice base n cap) (hn : n ≤ cap) (ao : Option Addr) (m c : Nat) (hm : m = 0) (hx : a.eval x = .slice ao m c)
    (h : wpList P ops Q rest (a.put o.dst (.slice base n cap)) w) : wpList P ops Q (o :: rest) a w := by
  subst hm
  refine wpList_plain hgd fun _ hK => ?_
  have hr : (Builtin.append_ #[t, tx] o.type #[.slice base n cap, .slice ao 0 c]).run P w = .ok (.slice base n cap) w := by
    rw [append_types w ht hk]; exact run_append_empty w ht hi base n cap c hn ao
  unfold Oper.wp execOp
  simp only [ho, resolve, invoke, builtin, Sem.run_bind, Sem.run_pure, Result.andThen_ok, List.map_toArray, List.map_cons, List.map_nil, hs, hx, hr]
  exact hK _ _ h
theorem info_ent : (Tryz.prog.info? 73).map (fun i => (i.zero, i.size, i.bytes)) = some (some (.agg #[.int .i64 0, .int .i64 0, .int .i64 0]), 3, 24) := by kernel_rfl
theorem info_int' : (Tryz.prog.info? 3).map (fun i => (i.zero, i.size, i.bytes)) = some (some (.int .i64 0), 1, 8) := by kernel_rfl
theorem info_sl : (Tryz.prog.info? 34).map (fun i => (i.zero, i.size, i.bytes)) = some (some (.slice none 0 0), 1, 24) := by kernel_rfl
structure IxA (w0 ws w : World) (xb base : Nat) (ev al : Value) (es : List ((Int × Nat) × Nat)) (ss : List ByteArray) : Prop where
  box : BoxN w xb 30 #[ev, .slice none 0 0, .slice none 0 0]
  ents : w.ownsRow base 73 3 ev es.length (flatK 3 es.length (entF es))
  all : w.ownsRow base 9 1 al ss.length (ss.map Value.string)
  below : Below w0.heap.size w0 w
  low : base ≤ w.heap.size
  keep : ∀ k, k < base → k ≠ xb → w.heap[k]? = ws.heap[k]?
section
variable {w0 ws w w' : World} {xb base : Nat} {ev al : Value} {es : List ((Int × Nat) × Nat)} {ss : List ByteArray}
theorem IxA.alloc (h : IxA w0 ws w xb base ev al es ss) (hx : w0.heap.size ≤ xb) (hb : xb < base) (O : Obj) : IxA w0 ws (w.alloc O) xb base ev al es ss :=
  ⟨h.box.alloc O, h.ents.alloc O, h.all.alloc O, h.below.alloc (by have := h.low; omega) O, by rw [World.size_alloc]; exact Nat.le_succ_of_le h.low, fun k h1 h2 => (Below.heap_alloc w O k (Nat.lt_of_lt_of_le h1 h.low)).trans (h.keep k h1 h2)⟩
theorem IxA.push (h : IxA w0 ws w xb base ev al es ss) {x : (Int × Nat) × Nat} {p m cap : Nat} (hm : m = es.length + 1)
    (hown : w'.ownsRow base 73 3 (.slice (some ⟨p, 0, none⟩) m cap) m (flatK 3 es.length (entF es) ++ [.int .i64 x.1.1, .int .i64 (x.1.2 : Int), .int .i64 (x.2 : Int)])) (hgr : w.grownBy w' ev.ownBlock) (hcb : xb < base) (hc0 : w0.heap.size ≤ xb) :
    IxA w0 ws (w'.setCell ⟨xb, 0, none⟩ (.slice (some ⟨p, 0, none⟩) m cap)) xb base (.slice (some ⟨p, 0, none⟩) m cap) al (es ++ [x]) ss := by
  have hv : ∀ k, ev.ownBlock = some k → base ≤ k := fun k hk => (h.ents.lt k hk).1
  have hlo := h.low
  have hx' : ∀ k, k < base → w'.heap[k]? = w.heap[k]? := fun k hk => hgr.block k (by omega) (fun e => by have := hv k e.symm; omega)
  subst hm
  refine ⟨(show BoxN w' xb _ _ from (hx' xb hcb).trans h.box).set 0 _, ?_, ownsRow_setCell_below (h.all.kept hgr (own_apart h.all h.ents (by decide))) hcb _, ?_, by have := hgr.size; simp; omega, fun k h1 h2 => (Below.heap_setCell _ _ _ _ h2).trans ((hx' k h1).trans (h.keep k h1 h2))⟩
  · have h1 := ownsRow_setCell_below hown hcb (a := ⟨xb, 0, none⟩) (.slice (some ⟨p, 0, none⟩) (es.length + 1) cap)
    rw [ent_push es x] at h1
    rw [List.length_append, List.length_singleton] at h1 ⊢
    exact h1
  · refine h.below.trans ⟨hgr.os, hgr.tape, hgr.output, by have := hgr.size; simpa using this, fun k hk => (Below.heap_setCell _ _ _ _ (by show k ≠ xb; omega)).trans (hx' k (by omega))⟩
theorem IxA.more (h : IxA w0 ws w xb base ev al es ss) {al' : Value} {ss' : List ByteArray} (hown : w'.ownsRow base 9 1 al' ss'.length (ss'.map Value.string)) (hgr : w.grownBy w' al.ownBlock) (hcb : xb < base) (hc0 : w0.heap.size ≤ xb) :
    IxA w0 ws w' xb base ev al' es ss' := by
  have hv : ∀ k, al.ownBlock = some k → base ≤ k := fun k hk => (h.all.lt k hk).1
  have hlo := h.low
  have hx' : ∀ k, k < base → w'.heap[k]? = w.heap[k]? := fun k hk => hgr.block k (by omega) (fun e => by have := hv k e.symm; omega)
  exact ⟨(hx' xb hcb).trans h.box, h.ents.kept hgr (own_apart h.ents h.all (by decide)), hown, h.below.trans ⟨hgr.os, hgr.tape, hgr.output, hgr.size, fun k hk => hx' k (by omega)⟩, by have := hgr.size; omega, fun k h1 h2 => (hx' k h1).trans (h.keep k h1 h2)⟩
end
theorem own_caps' {w : World} {base : Nat} {e : TypeId} {size n : Nat} {v : Value} {xs : List Value} (h : w.ownsRow base e size v n xs) : ∀ a m c, v = .slice a m c → n ≤ c := by
  intro a m c hv
  rcases h.2 with ⟨h, h0⟩ | ⟨g', cap', cur, h, hb, hg, hn, hm, hs, ht⟩
  · omega
  · rw [hv] at h
    obtain ⟨_, _, rfl⟩ := Value.slice.inj h
    exact hn
theorem src_of_inS {w W : World} {B n vc : Nat} {va : Option Addr} {vs : List ByteArray} (h : InS w (· < B) (.slice va n vc) vs) (hW : Below w.heap.size w W) (hB : B ≤ w.heap.size) :
    0 < n → ∃ ad, va = some ad ∧ ∀ j u, (vs.map Value.string)[j]? = some u → W.cell? (ad.add j) = some u := by
  intro hn
  obtain ⟨a, c, e, -, -, h⟩ := h
  obtain ⟨rfl, rfl, rfl⟩ := Value.slice.inj e
  obtain ⟨b, o, rfl, hb, hc⟩ := h hn
  have hb' : b < B := hb
  refine ⟨_, rfl, fun j u hu => ?_⟩
  have hj : j < vs.length := by have := (List.getElem?_eq_some_iff.1 hu).1; simpa using this
  rw [Addr.add_lit]
  refine (hW.cell (p := ⟨b, o + j, none⟩) (by show b < _; omega)).trans ?_
  have h1 := hc j hj 0 (by omega)
  simp only [Nat.mul_one, Nat.add_zero] at h1
  rw [h1, ← hu]
  simp [strF, List.getD, hj]
structure IxB (w0 ws w : World) (xb base : Nat) (ev vv lv : Value) (es : List ((Int × Nat) × Nat)) (vs : List ByteArray) (ls : List (List Nat)) : Prop where
  box : BoxN w xb 30 #[ev, vv, lv]
  ents : w.ownsRow base 73 3 ev es.length (flatK 3 es.length (entF es))
  vals : w.ownsRow base 9 1 vv vs.length (vs.map Value.string)
  lists : ∃ f : Nat → Value, Nest 1 w base 34 lv ls.length (fun i _ => f i) (fun i W S => InN W S (f i) (ls.getD i []))
  below : Below w0.heap.size w0 w
  low : base ≤ w.heap.size
  keep : ∀ k, k < base → k ≠ xb → w.heap[k]? = ws.heap[k]?
section
variable {w0 ws w w' : World} {xb base : Nat} {ev vv lv : Value} {es : List ((Int × Nat) × Nat)} {vs : List ByteArray} {ls : List (List Nat)}
theorem IxB.later (h : IxB w0 ws w xb base ev vv lv es vs ls) (hb : Below w.heap.size w w') (hp : 0 < base) : IxB w0 ws w' xb base ev vv lv es vs ls := by
  have hr := Roll.of_below hb 0
  obtain ⟨f, hf⟩ := h.lists
  exact ⟨h.box.below hb h.box.lt, own_roll h.ents hr (Nat.le_refl _) hp, own_roll h.vals hr (Nat.le_refl _) hp, ⟨f, hf.below (fun i _ => keeps_n _ _) hb (Nat.le_refl _) hp⟩, h.below.trans (hb.mono h.below.size), Nat.le_trans h.low hb.size,
    fun k h1 h2 => (hb.block k (Nat.lt_of_lt_of_le h1 h.low)).trans (h.keep k h1 h2)⟩
theorem IxB.push (h : IxB w0 ws w xb base ev vv lv es vs ls) {x : List Nat} {L : List Value} {u : Value} {p m cap : Nat} (hm : m = ls.length + 1) (hL : w.ownsRow base 34 1 lv ls.length L)
    (hown : w'.ownsRow base 34 1 (.slice (some ⟨p, 0, none⟩) m cap) m (L ++ [u])) (hgr : w.grownBy w' lv.ownBlock) (hat : lv.ownBlock = some p ∨ p = w.heap.size) (hnew : InN w (Own w base lv) u x) (hcb : xb < base) (hc0 : w0.heap.size ≤ xb) :
    IxB w0 ws (w'.setCell ⟨xb, 2, none⟩ (.slice (some ⟨p, 0, none⟩) m cap)) xb base ev vv (.slice (some ⟨p, 0, none⟩) m cap) es vs (ls ++ [x]) := by
  have hv : ∀ k, lv.ownBlock = some k → base ≤ k := fun k hk => (hL.lt k hk).1
  have hlo := h.low
  have hx' : ∀ k, k < base → w'.heap[k]? = w.heap[k]? := fun k hk => hgr.block k (by omega) (fun e => by have := hv k e.symm; omega)
  obtain ⟨f, hf⟩ := h.lists
  have hLL := own_same hL hf.row
  subst hLL
  subst hm
  refine ⟨(show BoxN w' xb _ _ from (hx' xb hcb).trans h.box).set 2 _, ownsRow_setCell_below (h.ents.kept hgr (own_apart h.ents hf.row (by decide))) hcb _, ownsRow_setCell_below (h.vals.kept hgr (own_apart h.vals hf.row (by decide))) hcb _, ⟨fun i => if i = ls.length then u else f i, ?_⟩, ?_, by have := hgr.size; simp; omega, fun k h1 h2 => (Below.heap_setCell _ _ _ _ h2).trans ((hx' k h1).trans (h.keep k h1 h2))⟩
  · rw [List.length_append, List.length_singleton]
    refine (hf.push (fun i _ => keeps_n _ _) hown hgr hat ?_ (keeps_n _ _) ?_ ?_ ?_).setCell (fun i _ => keeps_n _ _) hcb _
    · simpa [List.getD] using hnew
    · intro i hi j hj
      have : i ≠ ls.length := by omega
      simp [this]
    · simp [List.range_succ]
    · intro i hi
      have : i ≠ ls.length := by omega
      simp [List.getD, List.getElem?_append_left hi, this]
  · refine h.below.trans ⟨hgr.os, hgr.tape, hgr.output, by have := hgr.size; simpa using this, fun k hk => (Below.heap_setCell _ _ _ _ (by show k ≠ xb; omega)).trans (hx' k (by omega))⟩
end
def IndexP (w : World) (x : Ix) (e : Ending) (w' : World) : Prop :=
  ∃ ev vv lv, e = .returned (.agg #[ev, vv, lv]) ∧ RdIx w' (News w w') ev vv lv x ∧ Below w.heap.size w w'
set_option maxRecDepth 100000 in
set_option maxHeartbeats 4000000 in
theorem ref_index (v : Value) (cs : List Cv) (B : Nat) (w : World) (hv : RdCv w (· < B) v cs) (hB : B ≤ w.heap.size) (hl : cs.length ≤ 65536) (hm : ∀ c ∈ cs, c.2.length ≤ 4096) :
  Calls Tryz.prog 75 #[v] w (IndexP w (indexOf cs)) := by
 obtain ⟨vv, ⟨a, k, rfl, hk, hmx, hrd⟩, hkids⟩ := hv
 obtain ⟨i0, hi, hz0, hz1, hz2⟩ := info_parts info_ent
 obtain ⟨j0, hj, hy0, hy1, hy2⟩ := info_parts info_str
 obtain ⟨m0, hm0, hu0, hu1, hu2⟩ := info_parts info_int'
 obtain ⟨l0, hl0, hv0, hv1, hv2⟩ := info_parts info_sl
 have HRD := hid hrd
 have HKI := hid hkids
 have HET := hid (fun q h => @ents_take cs q h)
 have HAT := hid (fun q h => @all_take cs q h)
 have HEL := hid (fun q => Nat.le_trans (Nat.le_of_eq (ents_len (cs.take q))) (List.length_take_le q cs))
 have HAL := hid (fun q => Nat.le_trans (all_len (cs := cs.take q) (m := 4096) (fun c hc => hm c (List.mem_of_mem_take hc))) (Nat.mul_le_mul_right 4096 (List.length_take_le q cs)))
 have HM := hid (fun q (h : q < cs.length) => hm _ (getD_mem h Cv.z))
 clear hrd hkids hm
 generalize hcl : cs.length = L at *
 have HCL := hid hcl
 clear hcl
 unfold maxLen at hmx
 go_enter Tryz.func75, Tryz.ntmps75
 generalize hLA : Code.loop _ = LA
 generalize hLB : Code.loop _ = LB
 go_wp2_with fail
 have HX0 := hid (BoxN.new (w.alloc (.cells #[.slice none 0 0, .slice none 0 0, .slice none 0 0] 30)) #[.slice none 0 0, .slice none 0 0, .slice none 0 0] 30)
 have HR0 := hid ((BoxN.new w #[.slice none 0 0, .slice none 0 0, .slice none 0 0] 30).alloc (.cells #[.slice none 0 0, .slice none 0 0, .slice none 0 0] 30))
 have HB0 : Hid (Below w.heap.size w ((w.alloc (.cells #[.slice none 0 0, .slice none 0 0, .slice none 0 0] 30)).alloc (.cells #[.slice none 0 0, .slice none 0 0, .slice none 0 0] 30))) := hid (by have := Below.refl w.heap.size w; repeat' (first | (with_reducible exact Below.refl _ _) | (with_reducible assumption) | (with_reducible refine below_drewN ?_) | (with_reducible refine Below.alloc ?_ ?_ _) | (with_reducible refine Below.drew ?_) | (with_reducible refine Below.setCell ?_ ?_ _) | (with_reducible refine Below.trans ?_ (Below.mono (by with_reducible assumption) ?_)) | go_size))
 have hzz : ((w.alloc (.cells #[.slice none 0 0, .slice none 0 0, .slice none 0 0] 30)).alloc (.cells #[.slice none 0 0, .slice none 0 0, .slice none 0 0] 30)).heap.size = w.heap.size + 2 := by simp
 rw [World.size_alloc] at HX0
 generalize (w.alloc (.cells #[.slice none 0 0, .slice none 0 0, .slice none 0 0] 30)).alloc (.cells #[.slice none 0 0, .slice none 0 0, .slice none 0 0] 30) = W0 at *
 first | subst hLA | skip
 go_loopg [4, 14] L (fun N v i wr => ∃ (q : Nat) (ev : Value), q + N = L ∧ i = .int .i64 (q : Int) ∧ Hid (IxA w W0 wr (w.heap.size + 1) (w.heap.size + 2) ev v (entsOf (cs.take q)) (allOf (cs.take q))))
 case atStart => exact ⟨0, .slice none 0 0, by omega, rfl, hid ⟨HX0.out, World.ownsRow_nil _ _ _ _, World.ownsRow_nil _ _ _ _, HB0.out, by omega, fun _ _ _ => rfl⟩⟩
 case round =>
  obtain ⟨q, ev, hq, rfl, HST⟩ := hrel
  by_cases hp : 0 < gk
  ·obtain ⟨b, o, rfl, hb, hcell⟩ := HRD.out (by omega)
   have hb' : b < B := hb
   have hbw : b < w.heap.size := by omega
   have hlo := HST.out.low
   have k0 : wr.cell? ⟨b, o + q * 3, none⟩ = some (.int .i64 (cs.getD q Cv.z).1.1) := (HST.out.below.cell (p := ⟨b, o + q * 3, none⟩) hbw).trans (hcell q (by omega) 0 (by omega))
   have k1 : wr.cell? ⟨b, o + q * 3 + 1, none⟩ = some (.int .i64 ((cs.getD q Cv.z).1.2 : Int)) := (HST.out.below.cell (p := ⟨b, o + q * 3 + 1, none⟩) hbw).trans (hcell q (by omega) 1 (by omega))
   have k2 : wr.cell? ⟨b, o + q * 3 + 2, none⟩ = some (vv q) := (HST.out.below.cell (p := ⟨b, o + q * 3 + 2, none⟩) hbw).trans (hcell q (by omega) 2 (by omega))
   obtain ⟨va, vc, hvq, hvn, hvm, hvr⟩ := HKI.out q (by omega)
   have HKV0 := HKI.out q (by omega)
   rw [hvq] at HKV0
   have HKV := hid HKV0
   have HACC := hid (own_caps' HST.out.all)
   have HE := hid (HET.out q (by have := HCL.out; omega))
   have HA := hid (HAT.out q (by have := HCL.out; omega))
   have hel := HEL.out q
   have hal := HAL.out q
   have hmq := HM.out q (by have := HCL.out; omega)
   rw [hvq] at k2
   clear hcell hvq hvr HKV0
   generalize entsOf (cs.take q) = es at *
   generalize allOf (cs.take q) = ss at *
   generalize cs.getD q Cv.z = c at *
   obtain ⟨⟨ti, ki⟩, vs⟩ := c
   simp only at k0 k1 k2 hvn hmq HKV
   obtain ⟨ea, ec, rfl⟩ := own_slice HST.out.ents
   obtain ⟨aa, ac, rfl⟩ := own_slice HST.out.all
   have HS3 := hid (HST.out.alloc (by omega) (by omega) (.cells #[.int .i64 ti, .int .i64 (ki : Int), .slice va vs.length vc] 116))
   have HCX := hid (BoxN.new wr #[.int .i64 ti, .int .i64 (ki : Int), .slice va vs.length vc] 116)
   have hz3 : (wr.alloc (.cells #[.int .i64 ti, .int .i64 (ki : Int), .slice va vs.length vc] 116)).heap.size = wr.heap.size + 1 := by simp
   have HEO := hid HST.out.ents
   generalize hvl : vs.length = n at *
   have HVL := hid hvl
   generalize hesl : es.length = n1 at *
   have HESL := hid hesl
   generalize hssl : ss.length = n2 at *
   have HSSL := hid hssl
   have HOW : Hid ((wr.alloc (.cells #[.int .i64 ti, .int .i64 (ki : Int), .slice va n vc] 116)).ownsRow (w.heap.size + 2) 73 3 (.slice ea n1 ec) n1 (flatK 3 n1 (entF es))) := hid (by have := HS3.out.ents; rw [hesl] at this; exact this)
   have HAC : Hid (n2 ≤ ac) := hid (HACC.out _ _ _ rfl)
   have s0 := HST.out.box.cell 0 rfl
   have s1 := HS3.out.box.cell 0 rfl
   clear hvl hesl hssl
   have HSRC := hid (fun W hW => src_of_inS (n := n) (W := W) (HKV.out) hW hB)
   rcases Nat.eq_zero_or_pos n with hn0 | hnp
   ·have HN0 := hid hn0
    have hvs : vs = [] := List.eq_nil_of_length_eq_zero (HVL.out.trans hn0)
    clear hn0
    have HVS := hid hvs
    clear hvs
    go_wp2_with (first | (at_builtin; refine wpList_append_form _ rfl (.tmp 19) (.tmp 26) 26 26 rfl (w.heap.size + 2) 73 73 i0 (.agg #[.int .i64 0, .int .i64 0, .int .i64 0]) 3 24 Tryz.underlying26 Tryz.underlying26 hi hz0 hz1 hz2 rfl (by decide) (.slice ea n1 ec) n1 (flatK 3 n1 (entF es)) rfl (HOW.out.alloc _) (some ⟨_, 0, none⟩) 1 1 [.int .i64 ti, .int .i64 (ki : Int), .int .i64 (n : Int)] rfl rfl (fun _ => ⟨_, rfl, cell_three_at _ _ _ _ (by simp)⟩) (by intro u hu; simp at hu; rcases hu with rfl | rfl | rfl <;> rfl) (by omega) (by unfold maxLen; omega) (by omega) (by simp; omega) ?_; intro p7 cap7 w7 hown7 hg7 hat7 hlt7; have HOWN7 := hid hown7; have HG7 := hid ((World.grownBy_alloc _ _ _).trans hg7); have hbx7 := ((HS3.out.box.alloc (.cells #[.int .i64 ti, .int .i64 (ki : Int), .int .i64 (n : Int)] 73)).grown hg7 (fun e => by have := (HOW.out.lt _ e.symm).1; omega)); have q0 := hbx7.cell 0 rfl; have fq0 := hbx7.frozen 0; have HS8 := hid (HS3.out.push (x := ((ti, ki), n)) (by rw [HESL.out]) (by rw [HESL.out]; exact hown7) HG7.out (by omega) (by omega)); have hcx7 := ((HCX.out.alloc (.cells #[.int .i64 ti, .int .i64 (ki : Int), .int .i64 (n : Int)] 73)).grown hg7 (fun e => by have := (HEO.out.lt _ e.symm).2; omega)); have r2 := (hcx7.other (p := ⟨w.heap.size + 1, 0, none⟩) (by show w.heap.size + 1 ≠ _; omega) (.slice (some ⟨p7, 0, none⟩) (n1 + 1) cap7)).cell 2 rfl; clear hown7 hg7 hat7 hbx7 hcx7) | (at_builtin; refine wpList_append_zero rfl (.tmp 29) (.tmp 31) 27 27 rfl 9 9 j0 Tryz.underlying27 Tryz.underlying27 hj aa n2 ac rfl HAC.out va n vc HN0.out rfl ?_))
    go_wp2
    go_roundg (gk - 1)
    case rel => exact ⟨q + 1, _, by omega, by go_num, hid (by rw [HE.out, HA.out, HVS.out, List.append_nil]; exact HS8.out)⟩
    case measure => omega
   ·go_wp2_with (first | (at_builtin; refine wpList_append_form _ rfl (.tmp 19) (.tmp 26) 26 26 rfl (w.heap.size + 2) 73 73 i0 (.agg #[.int .i64 0, .int .i64 0, .int .i64 0]) 3 24 Tryz.underlying26 Tryz.underlying26 hi hz0 hz1 hz2 rfl (by decide) (.slice ea n1 ec) n1 (flatK 3 n1 (entF es)) rfl (HOW.out.alloc _) (some ⟨_, 0, none⟩) 1 1 [.int .i64 ti, .int .i64 (ki : Int), .int .i64 (n : Int)] rfl rfl (fun _ => ⟨_, rfl, cell_three_at _ _ _ _ (by simp)⟩) (by intro u hu; simp at hu; rcases hu with rfl | rfl | rfl <;> rfl) (by omega) (by unfold maxLen; omega) (by omega) (by simp; omega) ?_; intro p7 cap7 w7 hown7 hg7 hat7 hlt7; have HOWN7 := hid hown7; have HG7 := hid ((World.grownBy_alloc _ _ _).trans hg7); have hbx7 := ((HS3.out.box.alloc (.cells #[.int .i64 ti, .int .i64 (ki : Int), .int .i64 (n : Int)] 73)).grown hg7 (fun e => by have := (HOW.out.lt _ e.symm).1; omega)); have q0 := hbx7.cell 0 rfl; have fq0 := hbx7.frozen 0; have HS8 := hid (HS3.out.push (x := ((ti, ki), n)) (by rw [HESL.out]) (by rw [HESL.out]; exact hown7) HG7.out (by omega) (by omega)); have hcx7 := ((HCX.out.alloc (.cells #[.int .i64 ti, .int .i64 (ki : Int), .int .i64 (n : Int)] 73)).grown hg7 (fun e => by have := (HEO.out.lt _ e.symm).2; omega)); have r2 := (hcx7.other (p := ⟨w.heap.size + 1, 0, none⟩) (by show w.heap.size + 1 ≠ _; omega) (.slice (some ⟨p7, 0, none⟩) (n1 + 1) cap7)).cell 2 rfl; clear hown7 hg7 hat7 hbx7 hcx7) | (at_builtin; refine wpList_append_form _ rfl (.tmp 29) (.tmp 31) 27 27 rfl (w.heap.size + 2) 9 9 j0 (.string ⟨#[]⟩) 1 16 Tryz.underlying27 Tryz.underlying27 hj hy0 hy1 hy2 rfl (by decide) (.slice aa n2 ac) n2 (ss.map Value.string) rfl (by have := HS8.out.all; rw [HSSL.out] at this; exact this) va n vc (vs.map Value.string) rfl (by rw [List.length_map, HVL.out, Nat.mul_one]) (HSRC.out _ HS8.out.below) (smap_one vs) (by omega) (by unfold maxLen; omega) (by omega) (by have := HS8.out.low; exact this) ?_; intro p9 cap9 w9 hown9 hg9 hat9 hlt9; have HOWN9 := hid hown9; have HG9 := hid hg9; clear hown9 hg9 hat9))
    have HS9 : Hid (IxA w W0 w9 (w.heap.size + 1) (w.heap.size + 2) (.slice (some ⟨p7, 0, none⟩) (n1 + 1) cap7) (.slice (some ⟨p9, 0, none⟩) (n2 + n) cap9) (es ++ [((ti, ki), n)]) (ss ++ vs)) := hid (HS8.out.more (by have := HOWN9.out; rw [List.length_append, HSSL.out, HVL.out, List.map_append]; exact this) HG9.out (by omega) (by omega))
    go_wp2
    go_roundg (gk - 1)
    case rel => exact ⟨q + 1, _, by omega, by go_num, hid (by rw [HE.out, HA.out]; exact HS9.out)⟩
    case measure => omega
  ·obtain rfl : q = L := by omega
   obtain ⟨aa, ac, rfl⟩ := own_slice HST.out.all
   have hal := HAL.out q
   have HR : Hid (RdS wr wr.heap.size (.slice aa (allOf (cs.take q)).length ac) (allOf (cs.take q))) := hid (rdS_of_own HST.out.all)
   have HSET := hid (ref_Set _ _ _ wr HR.out (Nat.le_refl _) (by omega))
   have HTKA : Hid (cs.take q = cs) := hid (by rw [← HCL.out, List.take_length])
   have hwz := HST.out.below.size
   have hlo := HST.out.low
   have f1 := HST.out.box.frozen 1
   rw [HTKA.out] at HST HR HSET hal ⊢
   generalize hALL : (allOf cs).length = na at *
   have HVS : Hid ((setOfL (allOf cs)).length ≤ na) := hid (by rw [← hALL]; exact setOfL_len _)
   clear hALL
   generalize hss : setOfL (allOf cs) = vals at *
   have HSS := hid hss
   clear hss
   go_wp2_with fail
   with_reducible refine HSET.out.mono ?_
   rintro e w5 ⟨va, vc, rfl, hown5, hb5⟩
   have hx5 := HST.out.box.below hb5 HST.out.box.lt
   have b1 := hx5.cell 1 rfl
   have g1 := hx5.frozen 1
   have HX6 := hid (hx5.set 1 (.slice va vals.length vc))
   have s1 := HX6.out.cell 1 rfl
   have hz5 := hb5.size
   have hr5 := Roll.of_below hb5 0
   have HE6 := hid (ownsRow_setCell_below (own_roll HST.out.ents hr5 (Nat.le_refl _) (by omega)) (a := ⟨w.heap.size + 1, 1, none⟩) (by show w.heap.size + 1 < w.heap.size + 2; omega) (.slice va vals.length vc))
   have HV6 := hid (ownsRow_setCell_below (own_base hown5 hlo) (a := ⟨w.heap.size + 1, 1, none⟩) (by show w.heap.size + 1 < w.heap.size + 2; omega) (.slice va vals.length vc))
   have HB6 : Hid (Below w.heap.size w (w5.setCell ⟨w.heap.size + 1, 1, none⟩ (.slice va vals.length vc))) := hid (by have := HST.out.below.trans (hb5.mono hwz); repeat' (first | (with_reducible exact Below.refl _ _) | (with_reducible assumption) | (with_reducible refine below_drewN ?_) | (with_reducible refine Below.alloc ?_ ?_ _) | (with_reducible refine Below.drew ?_) | (with_reducible refine Below.setCell ?_ ?_ _) | (with_reducible refine Below.trans ?_ (Below.mono (by with_reducible assumption) ?_)) | go_size))
   have HK6 : Hid (∀ k, k < w.heap.size + 2 → k ≠ w.heap.size + 1 → (w5.setCell ⟨w.heap.size + 1, 1, none⟩ (.slice va vals.length vc)).heap[k]? = W0.heap[k]?) := hid (fun k h1 h2 => (Below.heap_setCell _ _ _ _ h2).trans ((hb5.block k (by omega)).trans (HST.out.keep k h1 h2)))
   have hz6 : w.heap.size + 2 ≤ (w5.setCell ⟨w.heap.size + 1, 1, none⟩ (.slice va vals.length vc)).heap.size := by simp; omega
   clear hown5 hb5 hx5 hr5
   go_wp2_with fail
   clear b1 g1 s1
   generalize w5.setCell ⟨w.heap.size + 1, 1, none⟩ (.slice va vals.length vc) = W6 at *
   have HST6 : Hid (IxB w W0 W6 (w.heap.size + 1) (w.heap.size + 2) ev (.slice va vals.length vc) (.slice none 0 0) (entsOf cs) vals []) := hid ⟨HX6.out, HE6.out, HV6.out, ⟨fun _ => .bool false, Nest.start hz6⟩, HB6.out, hz6, HK6.out⟩
   clear HX6 HE6 HV6 HB6 HK6
   subst hLB
   go_loopg [40] vals.length (fun N i wr => ∃ (t : Nat) (lv : Value), t + N = vals.length ∧ i = .int .i64 (t : Int) ∧ Hid (IxB w W0 wr (w.heap.size + 1) (w.heap.size + 2) ev (.slice va vals.length vc) lv (entsOf cs) vals ((vals.take t).map (listOfV cs))))
   case atStart => exact ⟨0, .slice none 0 0, by omega, rfl, HST6⟩
   case round =>
    obtain ⟨t, lv, ht, rfl, HSB⟩ := hrel
    obtain ⟨fB, hfB⟩ := HSB.out.lists
    obtain ⟨la', lc', rfl⟩ := own_slice hfB.row
    have HROW := hid hfB.row
    clear hfB
    by_cases hpt : 0 < gk
    ·obtain ⟨gv, capv, e3, hgv, hgvz⟩ := HSB.out.vals.form (by omega)
     obtain ⟨rfl, _, rfl⟩ := Value.slice.inj e3
     clear e3
     have v0 : wr.cell? ⟨gv, t, none⟩ = some (.string (vals.getD t ⟨#[]⟩)) := (HSB.out.vals.cellAt t (by omega)).trans (smap_get (by omega))
     have HMT : Hid ((vals.take (t + 1)).map (listOfV cs) = (vals.take t).map (listOfV cs) ++ [listOfV cs (vals.getD t ⟨#[]⟩)]) := hid (map_take _ (by omega))
     have hml : ((vals.take t).map (listOfV cs)).length = t := by rw [List.length_map, List.length_take]; omega
     have hvsz : vals.length ≤ 268435456 := by have := HVS.out; omega
     have hwt := HSB.out.below.size
     have hlo2 := HSB.out.low
     have HML := hid hml
     clear hml
     generalize (vals.take t).map (listOfV cs) = ls at *
     generalize vals.getD t ⟨#[]⟩ = s at *
     generalize hvn : vals.length = nv at *
     have HVN := hid hvn
     clear hvn
     have HRW0 : Hid (wr.ownsRow (w.heap.size + 2) 34 1 (.slice la' ls.length lc') ls.length (flatK 1 ls.length (fun i _ => fB i))) := HROW
     generalize hn6 : ls.length = n6 at *
     have HN6 := hid hn6
     clear hn6
     generalize hLC : Code.loop _ = LC
     go_wp2_with fail
     clear v0
     subst hLC
     obtain ⟨wo, rfl⟩ : ∃ wo, wo = wr := ⟨wr, rfl⟩
     obtain ⟨ko, rfl⟩ : ∃ ko, ko = gk := ⟨gk, rfl⟩
     go_loopg [9, 46] q (fun N v i wr => ∃ j : Nat, j + N = q ∧ i = .int .i64 (j : Int) ∧ Hid (Below wo.heap.size wo wr ∧ wr.ownsRow wo.heap.size 3 1 v (listK cs s j).length (natsV (listK cs s j))))
     case atStart => exact ⟨0, by omega, rfl, hid ⟨Below.refl _ _, World.ownsRow_nil _ _ _ _⟩⟩
     case round =>
      obtain ⟨j, hj, rfl, HSJ⟩ := hrel
      obtain ⟨la, lc, rfl⟩ := own_slice HSJ.out.2
      have hlk := listK_len cs s j
      have hwj := HSJ.out.1.size
      by_cases hpj : 0 < gk
      ·obtain ⟨b, o, rfl, hb, hcell⟩ := HRD.out (by omega)
       have hb' : b < B := hb
       have hbw : b < w.heap.size := by omega
       have HBJ := hid (HSB.out.below.trans (HSJ.out.1.mono hwt))
       have k0 : wr.cell? ⟨b, o + j * 3, none⟩ = some (.int .i64 (cs.getD j Cv.z).1.1) := (HBJ.out.cell (p := ⟨b, o + j * 3, none⟩) hbw).trans (hcell j (by omega) 0 (by omega))
       have k1 : wr.cell? ⟨b, o + j * 3 + 1, none⟩ = some (.int .i64 ((cs.getD j Cv.z).1.2 : Int)) := (HBJ.out.cell (p := ⟨b, o + j * 3 + 1, none⟩) hbw).trans (hcell j (by omega) 1 (by omega))
       have k2 : wr.cell? ⟨b, o + j * 3 + 2, none⟩ = some (vv j) := (HBJ.out.cell (p := ⟨b, o + j * 3 + 2, none⟩) hbw).trans (hcell j (by omega) 2 (by omega))
       have HKV := hid (HKI.out j (by omega))
       obtain ⟨ca, cc, hvq, -, -, -⟩ := HKI.out j (by omega)
       rw [hvq] at k2 HKV
       have HSUC := hid (listK_succ cs s j)
       have HHAS : Hid (∀ W, Below w.heap.size w W → Calls Tryz.prog 26 #[.slice ca (cs.getD j Cv.z).2.length cc, .string s] W (Quiet W (.bool (hasL (cs.getD j Cv.z).2 s)))) := hid (fun W hW => ref_Has _ _ s B W ((InS.rds HKV.out (fun b h => h)).below hW hB))
       clear hcell hvq
       generalize hasL (cs.getD j Cv.z).2 s = hs at *
       generalize (cs.getD j Cv.z).2.length = n7 at *
       generalize (cs.getD j Cv.z).1 = ck at *
       generalize hcur : listK cs s j = cur at *
       generalize hn5 : cur.length = n5 at *
       have HN5 := hid hn5
       clear hn5 hcur
       have HOJ : Hid ((wr.alloc (.cells #[.int .i64 ck.1, .int .i64 (ck.2 : Int), .slice ca n7 cc] 116)).ownsRow wo.heap.size 3 1 (.slice la n5 lc) n5 (natsV cur)) := hid (HSJ.out.2.alloc (.cells #[.int .i64 ck.1, .int .i64 (ck.2 : Int), .slice ca n7 cc] 116))
       have HB3 : Hid (Below wo.heap.size wo (wr.alloc (.cells #[.int .i64 ck.1, .int .i64 (ck.2 : Int), .slice ca n7 cc] 116))) := hid (HSJ.out.1.alloc hwj _)
       have hz9 : (wr.alloc (.cells #[.int .i64 ck.1, .int .i64 (ck.2 : Int), .slice ca n7 cc] 116)).heap.size = wr.heap.size + 1 := by simp
       go_wp2_with fail
       with_reducible refine (HHAS.out _ (HSB.out.below.trans (HB3.out.mono hwt))).mono ?_
       clear k0 k1 k2
       generalize wr.alloc (.cells #[.int .i64 ck.1, .int .i64 (ck.2 : Int), .slice ca n7 cc] 116) = W9 at *
       rintro e w8 ⟨rfl, q8, rfl⟩
       have HOJ2 := hid (own_drewN HOJ.out q8)
       have HB4 := hid (below_drewN (n := q8) HB3.out)
       generalize W9.drewN q8 = w8 at *
       clear HOJ HB3 hz9
       have HOJ := HOJ2
       clear HOJ2
       have hb8 := HB4.out.size
       cases hs
       ·have HEQ : Hid (listK cs s (j + 1) = cur) := hid (by rw [HSUC.out]; rfl)
        go_wp2
        go_roundg (gk - 1)
        case rel => exact ⟨j + 1, by omega, by go_num, hid ⟨HB4.out, by rw [HEQ.out, HN5.out]; exact HOJ.out⟩⟩
        case measure => omega
       ·have HEQ : Hid (listK cs s (j + 1) = cur ++ [j]) := hid (by rw [HSUC.out]; rfl)
        go_wp2_with (at_builtin; refine wpList_append_form _ rfl (.tmp 55) (.tmp 57) 34 34 rfl wo.heap.size 3 3 m0 (.int .i64 0) 1 8 Tryz.underlying34 Tryz.underlying34 hm0 hu0 hu1 hu2 rfl (by decide) (.slice la n5 lc) n5 (natsV cur) rfl (HOJ.out.alloc _) (some ⟨_, 0, none⟩) 1 1 [.int .i64 (j : Int)] rfl rfl (fun _ => ⟨_, rfl, cell_one_at _ _ (by simp)⟩) (by intro u hu; simp at hu; subst hu; rfl) (by omega) (by unfold maxLen; omega) (by omega) (by simp; omega) ?_; intro p9 cap9 w9 hown9 hg9 hat9 hlt9; have HOWN9 := hid hown9; have HG9 := hid ((World.grownBy_alloc _ _ _).trans hg9); clear hown9 hg9 hat9)
        have HB5 : Hid (Below wo.heap.size wo w9) := hid (HB4.out.grown HG9.out HB4.out.size (fun k hk => (HOJ.out.lt k hk).1))
        go_wp2
        go_roundg (gk - 1)
        case rel => exact ⟨j + 1, by omega, by go_num, hid ⟨HB5.out, by rw [HEQ.out, List.length_append, List.length_singleton, HN5.out]; have := HOWN9.out; rw [show natsV cur ++ [.int .i64 (j : Int)] = natsV (cur ++ [j]) by simp [natsV]] at this; exact this⟩⟩
        case measure => omega
      ·obtain rfl : j = q := by omega
       have HSW := hid (HSB.out.later HSJ.out.1 (by omega))
       have HLK : Hid (listK cs s j = listOfV cs s) := hid (by rw [← HCL.out]; rfl)
       have HRW := hid (own_roll HRW0.out (Roll.of_below HSJ.out.1 0) (Nat.le_refl _) (by omega))
       have HKID : Hid (InN wr (fun b => wo.heap.size ≤ b ∧ b < wr.heap.size) (.slice la (listK cs s j).length lc) (listK cs s j)) := hid ((inN_of_own HSJ.out.2).more fun b hb => HSJ.out.2.lt b hb)
       have s2 := HSW.out.box.cell 2 rfl
       have hn6t : n6 ≤ 268435456 := by have := HML.out; omega
       generalize hcur : listK cs s j = cur at *
       generalize hn5 : cur.length = n5 at *
       have HN5 := hid hn5
       clear hn5 hcur
       go_wp2_with (at_builtin; refine wpList_append_form _ rfl (.tmp 61) (.tmp 63) 28 28 rfl (w.heap.size + 2) 34 34 l0 (.slice none 0 0) 1 24 Tryz.underlying28 Tryz.underlying28 hl0 hv0 hv1 hv2 rfl (by decide) (.slice la' n6 lc') n6 (flatK 1 n6 (fun i _ => fB i)) rfl (HRW.out.alloc _) (some ⟨_, 0, none⟩) 1 1 [.slice la n5 lc] rfl rfl (fun _ => ⟨_, rfl, cell_one_at _ _ (by simp)⟩) (by intro u hu; simp at hu; subst hu; rfl) (by omega) (by unfold maxLen; omega) (by omega) (by simp; omega) ?_; intro p9 cap9 w9 hown9 hg9 hat9 hlt9; have hbx9 := ((HSW.out.box.alloc (.cells #[.slice la n5 lc] 34)).grown hg9 (fun e => by have := (HRW.out.lt _ e.symm).1; omega)); have q2 := hbx9.cell 2 rfl; have fq2 := hbx9.frozen 2; have HOWN9 := hid hown9; have HG9 := hid hg9; have HAT9 := hid hat9; clear hown9 hg9 hat9 hbx9)
       have HST9 : Hid (IxB w W0 (w9.setCell ⟨w.heap.size + 1, 2, none⟩ (.slice (some ⟨p9, 0, none⟩) (n6 + 1) cap9)) (w.heap.size + 1) (w.heap.size + 2) ev (.slice (some ⟨gv, 0, none⟩) nv vc) (.slice (some ⟨p9, 0, none⟩) (n6 + 1) cap9) (entsOf cs) vals (ls ++ [cur])) := hid (by
        have h6 := HN6.out
        have h5 := HN5.out
        refine (HSW.out.later ((Below.refl _ _).alloc (Nat.le_refl _) (.cells #[.slice la n5 lc] 34)) (by omega)).push (by rw [h6]) (by rw [h6]; exact HRW.out.alloc _) HOWN9.out HG9.out HAT9.out ?_ (by omega) (by omega)
        have hk := HKID.out
        refine (InK.keep hk fun p hp => World.cell?_alloc_lt _ _ _ hp.2).more fun b hb => ⟨by omega, by simp; omega, fun e => ?_⟩
        have := (HRW0.out.lt _ e).2
        omega)
       go_wp2
       go_roundg (ko - 1)
       case rel => exact ⟨t + 1, _, by omega, by go_num, hid (by rw [HMT.out, ← HLK.out]; exact HST9.out)⟩
       case measure => omega
    ·have hte : t = vals.length := by omega
     have hb0 : BoxN wr w.heap.size 30 #[.slice none 0 0, .slice none 0 0, .slice none 0 0] := (HSB.out.keep w.heap.size (by omega) (by omega)).trans HR0.out
     have c0 := hb0.cell 0 rfl
     have c1 := hb0.cell 1 rfl
     have c2 := hb0.cell 2 rfl
     have f0 := hb0.frozen 0
     have f1' := hb0.frozen 1
     have f2 := hb0.frozen 2
     have e0 := HSB.out.box.cell 0 rfl
     have e1 := HSB.out.box.cell 1 rfl
     have e2 := HSB.out.box.cell 2 rfl
     obtain ⟨ea, ec, rfl⟩ := own_slice HSB.out.ents
     have hbF := (((hb0.set 0 (.slice ea (entsOf cs).length ec)).set 1 (.slice va vals.length vc)).set 2 (.slice la' ((vals.take t).map (listOfV cs)).length lc'))
     have D0 := hid (hbF.cell 0 rfl)
     have D1 := hid (hbF.cell 1 rfl)
     have D2 := hid (hbF.cell 2 rfl)
     have hfz := HSB.out.low
     have HIX : Hid (RdIx wr (fun b => w.heap.size + 2 ≤ b ∧ b < wr.heap.size) (.slice ea (entsOf cs).length ec) (.slice va vals.length vc) (.slice la' ((vals.take t).map (listOfV cs)).length lc') (indexOf cs)) := hid (by
      have h1 : (vals.take t).map (listOfV cs) = (indexOf cs).lists := by
       subst hte
       rw [List.take_length, ← HSS.out]; rfl
      refine ⟨(inK_of_owns HSB.out.ents).more fun b hb => HSB.out.ents.lt b hb, ?_, ?_⟩
      ·have h2 : (indexOf cs).vals = vals := HSS.out
       rw [h2]
       exact (inS_of_own HSB.out.vals).more fun b hb => HSB.out.vals.lt b hb
      ·obtain ⟨f, hf⟩ := HSB.out.lists
       rw [← h1]
       exact ⟨f, (inK_of_owns hf.row).more fun b hb => hf.row.lt b hb, fun i hi => (hf.kids i hi).more fun b hb => ⟨hb.1, hb.2.1⟩⟩)
     clear hb0 hbF hte
     generalize ((vals.take t).map (listOfV cs)).length = n6 at *
     generalize (entsOf cs).length = n1 at *
     go_wp2
     have d0 := D0.out
     have d1 := D1.out
     have d2 := D2.out
     refine bodyPost_ret (v := .agg #[.slice ea n1 ec, .slice va vals.length vc, .slice la' n6 lc']) (by simp [results, Tryz.results75, go_sem, d0, d1, d2]) rfl ⟨_, _, _, rfl, ?_, ?_⟩
     ·refine (HIX.out.keep fun p hp => ?_).more fun b hb => ⟨by omega, by simpa using hb.2⟩
      rw [World.cell?_setCell_other _ _ _ _ (by intro e; subst e; simp at hp; omega), World.cell?_setCell_other _ _ _ _ (by intro e; subst e; simp at hp; omega), World.cell?_setCell_other _ _ _ _ (by intro e; subst e; simp at hp; omega)]
     ·have := HSB.out.below
      repeat' (first | (with_reducible exact Below.refl _ _) | (with_reducible assumption) | (with_reducible refine below_drewN ?_) | (with_reducible refine Below.alloc ?_ ?_ _) | (with_reducible refine Below.drew ?_) | (with_reducible refine Below.setCell ?_ ?_ _) | (with_reducible refine Below.trans ?_ (Below.mono (by with_reducible assumption) ?_)) | go_size)
end Go.Proofs.YtikiimlmoalbcaaGreatDoor
