/- Contract of law36.column: a column of texts. Contract of the sanity check of law 36. Contracts of the kit's Light, Roll: numbers that came in become dice. What the walk of CopiesPairs needs besides: sizes of valid tables, alignments in one form, a pair of tables in memory. -/
import Derived.Test.YthblaeleogdfpaaGreatDoorCToaq
import Derived.Test.YthblaeleogdfpaaGreatDoorCToae
import Derived.Test.YthblaeleogdfpaaGreatDoorCTobn
import Derived.Test.YthblaeleogdfpaaGreatDoorCTobo
set_option linter.unusedVariables false
set_option linter.unusedSimpArgs false
namespace Go.Proofs.YthblaeleogdfpaaGreatDoor
open Go.RowKit Go.Shelf
def cellsT (ts : List ByteArray) : List Cl := ts.map fun t => ⟨false, t⟩
theorem cellsT_len (ts : List ByteArray) : (cellsT ts).length = ts.length := by simp [cellsT]
theorem cellsT_take {ts : List ByteArray} {q : Nat} (h : q < ts.length) : cellsT (ts.take (q + 1)) = cellsT (ts.take q) ++ [⟨false, ts.getD q ⟨#[]⟩⟩] := by
 unfold cellsT
 rw [List.take_succ_eq_append_getElem h, List.map_append]
 simp [List.getD, h]
structure ColW (w0 ws w : World) (cb base : Nat) (nm : ByteArray) (v : Value) (cs : List Cl) : Prop where
  box : BoxN w cb 30 #[.string nm, v]
  own : w.ownsRow base 104 2 v cs.length (flatK 2 cs.length (clF cs))
  bel : Below w0.heap.size w0 w
  low : base ≤ w.heap.size
  keep : ∀ k, k < base → k ≠ cb → w.heap[k]? = ws.heap[k]?
section
variable {w0 ws w w' : World} {cb base : Nat} {nm : ByteArray} {v : Value} {cs : List Cl}
theorem ColW.alloc (h : ColW w0 ws w cb base nm v cs) (O : Obj) : ColW w0 ws (w.alloc O) cb base nm v cs :=
 ⟨h.box.alloc O, h.own.alloc O, h.bel.alloc h.bel.size O, by simp; have := h.low; omega, fun k h1 h2 => (Below.heap_alloc w O k (Nat.lt_of_lt_of_le h1 h.low)).trans (h.keep k h1 h2)⟩
theorem ColW.push (h : ColW w0 ws w cb base nm v cs) {c : Cl} {p m cap : Nat} (hm : m = cs.length + 1)
  (hown : w'.ownsRow base 104 2 (.slice (some ⟨p, 0, none⟩) m cap) m (flatK 2 cs.length (clF cs) ++ [.bool c.null, .string c.text])) (hgr : w.grownBy w' v.ownBlock) (hcb : cb < base) (hc0 : w0.heap.size ≤ cb) :
  ColW w0 ws (w'.setCell ⟨cb, 1, none⟩ (.slice (some ⟨p, 0, none⟩) m cap)) cb base nm (.slice (some ⟨p, 0, none⟩) m cap) (cs ++ [c]) := by
 have hv : ∀ k, v.ownBlock = some k → base ≤ k := fun k hk => (h.own.lt k hk).1
 have hlo := h.low
 have hx : ∀ k, k < base → w'.heap[k]? = w.heap[k]? := fun k hk => hgr.block k (by omega) (fun e => by have := hv k e.symm; omega)
 subst hm
 refine ⟨(show BoxN w' cb _ _ from (hx cb hcb).trans h.box).set 1 _, ?_, ?_, by have := hgr.size; simp; omega, fun k h1 h2 => (Below.heap_setCell _ _ _ _ h2).trans ((hx k h1).trans (h.keep k h1 h2))⟩
 ·rw [← cl_push, List.length_append, List.length_singleton]
  exact ownsRow_setCell_below hown hcb _
 ·have h1 := h.bel
  have h2 : Below w0.heap.size w w' := ⟨hgr.os, hgr.tape, hgr.output, hgr.size, fun k hk => hx k (by omega)⟩
  exact (h1.trans h2).setCell (p := ⟨cb, 1, none⟩) hc0 _
end
set_option maxRecDepth 100000 in
set_option maxHeartbeats 2000000 in
theorem law36_column (nm : ByteArray) (u : Value) (ts : List ByteArray) (w : World) (hu : InK 1 w (· < w.heap.size) u ts.length (fun i _ => .string (ts.getD i ⟨#[]⟩))) (hl : ts.length ≤ 4096) :
  Calls Tryz.prog 44 #[.string nm, u] w (fun e w' => ∃ v, e = .returned (.agg #[.string nm, v]) ∧ RdCl w' (News w w') v (cellsT ts) ∧ Below w.heap.size w w') := by
 obtain ⟨i0, hi, hz0, hz1, hz2⟩ := info_parts info_cell
 obtain ⟨a, c, rfl, hc, hm, hr⟩ := hu
 have HR := hid hr
 have HT := hid (fun q (h : q < ts.length) => cellsT_take h)
 have HTL := hid (fun q (h : q ≤ ts.length) => (show (cellsT (ts.take q)).length = q by rw [cellsT_len, List.length_take]; omega))
 have HTA : Hid (cellsT (ts.take ts.length) = cellsT ts) := hid (by rw [List.take_length])
 have HT0 : Hid (cellsT (ts.take 0) = []) := hid rfl
 clear hr
 generalize hn : ts.length = n at *
 unfold maxLen at hm
 have HW := hid (BoxN.new (w.alloc (.cells #[.string ⟨#[]⟩, .slice none 0 0] 30)) #[.string nm, .slice none 0 0] 30)
 have HB1 := hid ((BoxN.new w #[.string ⟨#[]⟩, .slice none 0 0] 30).alloc (.cells #[.string nm, .slice none 0 0] 30))
 have HB0 : Hid (Below w.heap.size w ((w.alloc (.cells #[.string ⟨#[]⟩, .slice none 0 0] 30)).alloc (.cells #[.string nm, .slice none 0 0] 30))) := hid (((Below.refl _ w).alloc (Nat.le_refl _) _).alloc (by simp) _)
 have hz : ((w.alloc (.cells #[.string ⟨#[]⟩, .slice none 0 0] 30)).alloc (.cells #[.string nm, .slice none 0 0] 30)).heap.size = w.heap.size + 2 := by simp
 rw [World.size_alloc] at HW
 go_enter Tryz.func44, Tryz.ntmps44
 generalize hLA : Code.loop _ = LA
 go_wp2_with fail
 subst hLA
 generalize (w.alloc (.cells #[.string ⟨#[]⟩, .slice none 0 0] 30)).alloc (.cells #[.string nm, .slice none 0 0] 30) = W0 at *
 go_loopg [12] n (fun N i wr => ∃ (q : Nat) (v : Value), i = .int .i64 (q : Int) ∧ q + N = n ∧ Hid (ColW w W0 wr (w.heap.size + 1) (w.heap.size + 2) nm v (cellsT (ts.take q))))
 case atStart => exact ⟨0, .slice none 0 0, rfl, by omega, hid ⟨HW.out, World.ownsRow_nil _ _ _ _, HB0.out, by omega, fun _ _ _ => rfl⟩⟩
 case round =>
  obtain ⟨q, v, rfl, hq, HST⟩ := hrel
  obtain ⟨va, vc, rfl⟩ := own_slice HST.out.own
  by_cases hp : 0 < gk
  ·obtain ⟨b, o, rfl, hb, hcell⟩ := HR.out (by omega)
   have k1 : wr.cell? ⟨b, o + q, none⟩ = some (.string (ts.getD q ⟨#[]⟩)) := (HST.out.bel.cell (p := ⟨b, o + q, none⟩) hb).trans (by have := hcell q (by omega) 0 (by omega); simpa using this)
   have hTQ := HT.out q (by omega)
   have hLQ := HTL.out q (by omega)
   have HTQ := hid hTQ
   have HLQ := hid hLQ
   clear hcell hTQ
   clear hLQ
   generalize ts.getD q ⟨#[]⟩ = s at *
   have HST4 := hid (HST.out.alloc (.cells #[.bool false, .string s] 104))
   have s2 := HST4.out.box.cell 1 rfl
   have s3 := HST.out.box.cell 1 rfl
   rw [HLQ.out] at s2 s3
   have HOWN : Hid (wr.ownsRow (w.heap.size + 2) 104 2 (.slice va q vc) q (flatK 2 (cellsT (ts.take q)).length (clF (cellsT (ts.take q))))) := hid (by have := HST.out.own; rw [HLQ.out] at this; rw [HLQ.out]; exact this)
   have HOB : Hid (∀ k, (Value.slice va q vc).ownBlock = some k → w.heap.size + 2 ≤ k ∧ _) := hid (HOWN.out.lt)
   have hlo := HST4.out.low
   have hlo3 := HST.out.low
   have hcb3 := HST.out.box.lt
   go_wp2_with (at_builtin; go_must (refine wpList_append_form _ rfl _ _ 28 28 rfl (w.heap.size + 2) 104 104 i0 (.agg #[.bool false, .string ⟨#[]⟩]) 2 24 Tryz.underlying28 Tryz.underlying28 hi hz0 hz1 hz2 rfl (by decide) (.slice va q vc) q (flatK 2 (cellsT (ts.take q)).length (clF (cellsT (ts.take q)))) rfl (HOWN.out.alloc _) (some ⟨_, 0, none⟩) 1 1 [.bool false, .string s] rfl rfl (fun _ => ⟨_, rfl, cell_two_at _ _ _ (by simp)⟩) (by intro u hu; simp at hu; rcases hu with rfl | rfl <;> rfl) (by omega) (by unfold maxLen; omega) (by omega) (by simp; omega) ?_; intro p7 cap7 w7 hown7 hg7 hat7 hlt7; have hbx7 := (HST4.out.box).grown hg7 (fun e => by have := HOB.out _ e.symm; omega); have q1 := hbx7.cell 1 rfl; have fq1 := hbx7.frozen 1; have HG7 := hid hg7; have HOWN7 := hid hown7; clear hown7 hg7 hat7 hbx7))
   go_wp2_with fail
   go_roundg (gk - 1)
   case rel => exact ⟨q + 1, _, by go_num, by omega, hid (by rw [HTQ.out]; exact HST4.out.push (c := ⟨false, s⟩) (by rw [HLQ.out]) HOWN7.out (by rw [HLQ.out]; exact HG7.out) (by omega) (by omega))⟩
   case measure => omega
  ·obtain rfl : q = n := by omega
   have hb0 : BoxN wr w.heap.size 30 #[.string ⟨#[]⟩, .slice none 0 0] := (HST.out.keep w.heap.size (by omega) (by omega)).trans HB1.out
   have c0 := hb0.cell 0 rfl
   have c1 := hb0.cell 1 rfl
   have f0 := hb0.frozen 0
   have f1 := hb0.frozen 1
   have e0 := HST.out.box.cell 0 rfl
   have e1 := HST.out.box.cell 1 rfl
   have hrd := rdCl_of_own HST.out.own
   have HRD := hid hrd
   clear hb0 hrd
   go_wp2_with fail
   refine bodyPost_ret (by simp [results, Tryz.results44, go_sem, c0, c1]; rfl) rfl ?_
   refine ⟨_, rfl, ?_, ?_⟩
   ·rw [← HTA.out]
    refine (HRD.out.keep fun p hp => ?_).more fun b hb => ⟨by omega, by simpa using hb.2⟩
    rw [World.cell?_setCell_other _ _ _ _ (by intro e; subst e; simp at hp; omega), World.cell?_setCell_other _ _ _ _ (by intro e; subst e; simp at hp; omega)]
   ·have h1 := HST.out.bel
    exact (h1.setCell (p := ⟨w.heap.size, 0, none⟩) (Nat.le_refl _) _).setCell (p := ⟨w.heap.size, 1, none⟩) (Nat.le_refl _) _
end Go.Proofs.YthblaeleogdfpaaGreatDoor
namespace Go.Proofs.YthblaeleogdfpaaGreatDoor
open Go.RowKit Go.Shelf
def tn : ByteArray := ⟨#[110]⟩
def awA : Ta := ⟨1, ⟨#[]⟩, [⟨⟨#[110]⟩, cellsT [⟨#[120]⟩, ⟨#[120]⟩, ⟨#[121]⟩]⟩]⟩
def awB : Ta := ⟨2, ⟨#[]⟩, [⟨⟨#[110]⟩, cellsT [⟨#[120]⟩, ⟨#[121]⟩, ⟨#[122]⟩]⟩]⟩
theorem txt_oneA : ∀ x ∈ [(⟨#[120]⟩ : ByteArray), ⟨#[120]⟩, ⟨#[121]⟩], TextOk 8 x := by unfold TextOk; decide +kernel
theorem txt_oneB : ∀ x ∈ [(⟨#[120]⟩ : ByteArray), ⟨#[121]⟩, ⟨#[122]⟩], TextOk 8 x := by unfold TextOk; decide +kernel
theorem txt_n : TextOk 1024 ⟨#[110]⟩ := by unfold TextOk; decide +kernel
theorem txt_e : TextOk 1024 ⟨#[]⟩ := by unfold TextOk; decide +kernel
theorem tabV_one (i : Int) (ts : List ByteArray) (hi : 0 ≤ i) (hi2 : i ≤ 1073741824) (hl : ts.length ≤ 4096) (ht : ∀ t ∈ ts, TextOk 8 t) : TabV ⟨i, ⟨#[]⟩, [⟨⟨#[110]⟩, cellsT ts⟩]⟩ := by
 refine ⟨hi, hi2, txt_e, by simp, ts.length, hl, fun x hx => ?_⟩
 obtain rfl := List.mem_singleton.1 hx
 refine ⟨txt_n, cellsT_len ts, fun c hc => ?_⟩
 obtain ⟨t, h1, rfl⟩ := List.mem_map.1 hc
 exact cellOk_text (ht t h1)
theorem awA_ok : TabV awA := tabV_one 1 _ (by omega) (by omega) (by simp) txt_oneA
theorem awB_ok : TabV awB := tabV_one 2 _ (by omega) (by omega) (by simp) txt_oneB
theorem aw_common : commonL awA.cols awB.cols = 2 := by decide +kernel
theorem aw_den : denS awA.cols awB.cols = 3 := by decide +kernel
theorem inS_three (w : World) (x y z : ByteArray) (t : TypeId) : InK 1 (w.alloc (.cells #[.string x, .string y, .string z] t)) (· < (w.alloc (.cells #[.string x, .string y, .string z] t)).heap.size) (.slice (some ⟨w.heap.size, 0, none⟩) 3 3) [x, y, z].length (fun i _ => .string ([x, y, z].getD i ⟨#[]⟩)) := by
 refine ⟨_, _, rfl, Nat.le_refl _, by decide, fun _ => ⟨_, _, rfl, by simp, fun i hi j hj => ?_⟩⟩
 obtain rfl : j = 0 := by omega
 rcases (show i = 0 ∨ i = 1 ∨ i = 2 by have : i < 3 := hi; omega) with rfl | rfl | rfl
 ·exact World.cell?_alloc_at _ _ _ _ rfl
 ·exact World.cell?_alloc_at _ _ _ _ rfl
 ·exact World.cell?_alloc_at _ _ _ _ rfl
theorem rdCo_one {w : World} {nm : ByteArray} {v : Value} {cs : List Cl} {S : Nat → Prop} (t : TypeId) (h : RdCl w S v cs) (hS : ∀ b, S b → b < w.heap.size) :
  RdCo (w.alloc (.cells #[.string nm, v] t)) (· < (w.alloc (.cells #[.string nm, v] t)).heap.size) (.slice (some ⟨w.heap.size, 0, none⟩) 1 1) [⟨nm, cs⟩] := by
 refine ⟨fun _ => v, ⟨_, _, rfl, Nat.le_refl _, by decide, fun _ => ⟨_, _, rfl, by simp, fun i hi j hj => ?_⟩⟩, fun i hi => ?_⟩
 ·obtain rfl : i = 0 := by have : i < 1 := hi; omega
  rcases (show j = 0 ∨ j = 1 by omega) with rfl | rfl
  ·exact World.cell?_alloc_at _ _ _ _ rfl
  ·exact World.cell?_alloc_at _ _ _ _ rfl
 ·obtain rfl : i = 0 := by have : i < 1 := hi; omega
  exact (h.keep fun p hp => World.cell?_alloc_lt _ _ _ (hS _ hp)).more fun b hb => by have := hS b hb; simp; omega
set_option maxRecDepth 100000 in
set_option maxHeartbeats 4000000 in
theorem law36_awake (w : World) (hT : Tabs w) (hP : Pow w) : Calls Tryz.prog 8 #[] w (Ret w (.bool true)) := by
 have HT := hid hT
 have HP := hid (fun W (hW : Below w.heap.size w W) => hP.below hW (Nat.le_refl _))
 have HCO : Hid (∀ (v u : Value) (W : World), RdCo W (· < W.heap.size) v awA.cols → RdCo W (· < W.heap.size) u awB.cols → Below w.heap.size w W → Calls Tryz.prog 16 #[.agg #[.int .i64 1, .string ⟨#[]⟩, v], .agg #[.int .i64 2, .string ⟨#[]⟩, u]] W (fun e w' => e = .returned (.tuple #[.int .i64 2, .int .i64 0]) ∧ Below W.heap.size W w')) := hid (fun v u W hv hu hW => by
  have h := copies_Common awA awB v u W.heap.size W awA_ok awB_ok hv hu (Nat.le_refl _) (HT.out.below hW) (HP.out _ hW)
  rw [aw_common] at h
  exact h)
 have HSC : Hid (∀ (v u : Value) (W : World), RdCo W (· < W.heap.size) v awA.cols → RdCo W (· < W.heap.size) u awB.cols → Below w.heap.size w W → Calls Tryz.prog 18 #[.agg #[.int .i64 1, .string ⟨#[]⟩, v], .agg #[.int .i64 2, .string ⟨#[]⟩, u]] W (Fr.GivesFE W false (2 / Nat.gcd 2 3) (3 / Nat.gcd 2 3) (.int .i64 0))) := hid (fun v u W hv hu hW => by
  have h := copies_Score awA awB v u W.heap.size W awA_ok awB_ok hv hu (Nat.le_refl _) (HT.out.below hW) (HP.out _ hW)
  rw [aw_common, aw_den] at h
  exact h)
 have HPA : Hid (∀ W : World, Calls Tryz.prog 34 #[.int .i64 2, .int .i64 3] W (Fr.GivesF W false (2 / Nat.gcd 2 3) (3 / Nat.gcd 2 3))) := hid (fun W => Fr.ref_Part 2 3 W (by omega) (by omega) (by omega))
 have HC1 : Hid (∀ (b : Nat) (W : World), b = W.heap.size → Calls Tryz.prog 44 #[.string ⟨#[110]⟩, .slice (some ⟨b, 0, none⟩) 3 3] (W.alloc (.cells #[.string ⟨#[120]⟩, .string ⟨#[120]⟩, .string ⟨#[121]⟩] 9)) (fun e w' => ∃ v, e = .returned (.agg #[.string ⟨#[110]⟩, v]) ∧ RdCl w' (News (W.alloc (.cells #[.string ⟨#[120]⟩, .string ⟨#[120]⟩, .string ⟨#[121]⟩] 9)) w') v (cellsT [⟨#[120]⟩, ⟨#[120]⟩, ⟨#[121]⟩]) ∧ Below (W.alloc (.cells #[.string ⟨#[120]⟩, .string ⟨#[120]⟩, .string ⟨#[121]⟩] 9)).heap.size (W.alloc (.cells #[.string ⟨#[120]⟩, .string ⟨#[120]⟩, .string ⟨#[121]⟩] 9)) w')) := hid (fun b W hb => by subst hb; exact law36_column _ _ [⟨#[120]⟩, ⟨#[120]⟩, ⟨#[121]⟩] _ (inS_three W _ _ _ _) (by simp))
 have HC2 : Hid (∀ (b : Nat) (W : World), b = W.heap.size → Calls Tryz.prog 44 #[.string ⟨#[110]⟩, .slice (some ⟨b, 0, none⟩) 3 3] (W.alloc (.cells #[.string ⟨#[120]⟩, .string ⟨#[121]⟩, .string ⟨#[122]⟩] 9)) (fun e w' => ∃ v, e = .returned (.agg #[.string ⟨#[110]⟩, v]) ∧ RdCl w' (News (W.alloc (.cells #[.string ⟨#[120]⟩, .string ⟨#[121]⟩, .string ⟨#[122]⟩] 9)) w') v (cellsT [⟨#[120]⟩, ⟨#[121]⟩, ⟨#[122]⟩]) ∧ Below (W.alloc (.cells #[.string ⟨#[120]⟩, .string ⟨#[121]⟩, .string ⟨#[122]⟩] 9)).heap.size (W.alloc (.cells #[.string ⟨#[120]⟩, .string ⟨#[121]⟩, .string ⟨#[122]⟩] 9)) w')) := hid (fun b W hb => by subst hb; exact law36_column _ _ [⟨#[120]⟩, ⟨#[121]⟩, ⟨#[122]⟩] _ (inS_three W _ _ _ _) (by simp))
 clear hT hP
 generalize 2 / Nat.gcd 2 3 = p at *
 generalize 3 / Nat.gcd 2 3 = q at *
 go_enter Tryz.func8, Tryz.ntmps8
 go_wp2_with fail
 with_reducible refine (HC1.out _ _ rfl).mono ?_
 have HB0 : Hid (Below w.heap.size w (w.alloc (.cells #[.string ⟨#[120]⟩, .string ⟨#[120]⟩, .string ⟨#[121]⟩] 9))) := hid ((Below.refl _ w).alloc (Nat.le_refl _) _)
 generalize w.alloc (.cells #[.string ⟨#[120]⟩, .string ⟨#[120]⟩, .string ⟨#[121]⟩] 9) = W0 at *
 rintro e w1 ⟨v1, rfl, hr1, hb1⟩
 have HB1 := hid (HB0.out.trans (hb1.mono HB0.out.size))
 have HR1 := hid (rdCo_one (nm := ⟨#[110]⟩) 30 hr1 fun b hb => hb.2)
 have HX1 := hid (BoxN.new (w1.alloc (.cells #[.string ⟨#[110]⟩, v1] 30)) #[.int .i64 1, .string ⟨#[]⟩, .slice (some ⟨w1.heap.size, 0, none⟩) 1 1] 24)
 have HB2 : Hid (Below w.heap.size w ((w1.alloc (.cells #[.string ⟨#[110]⟩, v1] 30)).alloc (.cells #[.int .i64 1, .string ⟨#[]⟩, .slice (some ⟨w1.heap.size, 0, none⟩) 1 1] 24))) := hid ((HB1.out.alloc HB1.out.size _).alloc (by have := HB1.out.size; simp; omega) _)
 have HR2 : Hid (RdCo ((w1.alloc (.cells #[.string ⟨#[110]⟩, v1] 30)).alloc (.cells #[.int .i64 1, .string ⟨#[]⟩, .slice (some ⟨w1.heap.size, 0, none⟩) 1 1] 24)) (· < (w1.alloc (.cells #[.string ⟨#[110]⟩, v1] 30)).heap.size) (.slice (some ⟨w1.heap.size, 0, none⟩) 1 1) awA.cols) := hid (HR1.out.keep fun p hp => World.cell?_alloc_lt _ _ _ hp)
 have hzA : (w1.alloc (.cells #[.string ⟨#[110]⟩, v1] 30)).heap.size < ((w1.alloc (.cells #[.string ⟨#[110]⟩, v1] 30)).alloc (.cells #[.int .i64 1, .string ⟨#[]⟩, .slice (some ⟨w1.heap.size, 0, none⟩) 1 1] 24)).heap.size := by simp
 clear hr1 hb1 HR1
 go_wp2_with fail
 with_reducible refine (HC2.out _ _ (by simp)).mono ?_
 rw [World.size_alloc] at HX1
 generalize (w1.alloc (.cells #[.string ⟨#[110]⟩, v1] 30)).alloc (.cells #[.int .i64 1, .string ⟨#[]⟩, .slice (some ⟨w1.heap.size, 0, none⟩) 1 1] 24) = W2 at *
 generalize (w1.alloc (.cells #[.string ⟨#[110]⟩, v1] 30)).heap.size = s1 at *
 have HB3 : Hid (Below w.heap.size w (W2.alloc (.cells #[.string ⟨#[120]⟩, .string ⟨#[121]⟩, .string ⟨#[122]⟩] 9))) := hid (HB2.out.alloc HB2.out.size _)
 have HC3 : Hid (Below W2.heap.size W2 (W2.alloc (.cells #[.string ⟨#[120]⟩, .string ⟨#[121]⟩, .string ⟨#[122]⟩] 9))) := hid ((Below.refl _ W2).alloc (Nat.le_refl _) _)
 generalize W2.alloc (.cells #[.string ⟨#[120]⟩, .string ⟨#[121]⟩, .string ⟨#[122]⟩] 9) = W3 at *
 rintro e w4 ⟨v2, rfl, hr2, hb4⟩
 have HC4 := hid (HC3.out.trans (hb4.mono HC3.out.size))
 have HX14 := hid (HX1.out.below HC4.out HX1.out.lt)
 have HR4 := hid ((HR2.out.keep fun p hp => HC4.out.cell (p := p) (Nat.lt_trans hp hzA)).more fun b (hb : b < s1) => Nat.lt_of_lt_of_le (Nat.lt_trans hb hzA) HC4.out.size)
 have HB4 := hid (HB3.out.trans (hb4.mono HB3.out.size))
 have HQ5 := hid (rdCo_one (nm := ⟨#[110]⟩) 30 hr2 fun b hb => hb.2)
 clear hr2 hb4 HR2 HX1
 have HB5 : Hid (Below w.heap.size w ((w4.alloc (.cells #[.string ⟨#[110]⟩, v2] 30)).alloc (.cells #[.int .i64 2, .string ⟨#[]⟩, .slice (some ⟨w4.heap.size, 0, none⟩) 1 1] 24))) := hid ((HB4.out.alloc HB4.out.size _).alloc (by have := HB4.out.size; simp; omega) _)
 have HX15 := hid ((HX14.out.alloc (.cells #[.string ⟨#[110]⟩, v2] 30)).alloc (.cells #[.int .i64 2, .string ⟨#[]⟩, .slice (some ⟨w4.heap.size, 0, none⟩) 1 1] 24))
 have hx5 := BoxN.new (w4.alloc (.cells #[.string ⟨#[110]⟩, v2] 30)) #[.int .i64 2, .string ⟨#[]⟩, .slice (some ⟨w4.heap.size, 0, none⟩) 1 1] 24
 rw [World.size_alloc] at hx5
 have HX5 := hid hx5
 have hz5 : ((w4.alloc (.cells #[.string ⟨#[110]⟩, v2] 30)).alloc (.cells #[.int .i64 2, .string ⟨#[]⟩, .slice (some ⟨w4.heap.size, 0, none⟩) 1 1] 24)).heap.size = w4.heap.size + 2 := by simp
 have HRA : Hid (RdCo ((w4.alloc (.cells #[.string ⟨#[110]⟩, v2] 30)).alloc (.cells #[.int .i64 2, .string ⟨#[]⟩, .slice (some ⟨w4.heap.size, 0, none⟩) 1 1] 24)) (· < ((w4.alloc (.cells #[.string ⟨#[110]⟩, v2] 30)).alloc (.cells #[.int .i64 2, .string ⟨#[]⟩, .slice (some ⟨w4.heap.size, 0, none⟩) 1 1] 24)).heap.size) (.slice (some ⟨w1.heap.size, 0, none⟩) 1 1) awA.cols) := hid ((HR4.out.keep fun k hk => ((((Below.refl w4.heap.size w4).alloc (Nat.le_refl _) (.cells #[.string ⟨#[110]⟩, v2] 30)).alloc (by simp) (.cells #[.int .i64 2, .string ⟨#[]⟩, .slice (some ⟨w4.heap.size, 0, none⟩) 1 1] 24)).cell (p := k) hk)).more fun b hb => by
  have h : b < w4.heap.size := hb
  omega)
 have HRB : Hid (RdCo ((w4.alloc (.cells #[.string ⟨#[110]⟩, v2] 30)).alloc (.cells #[.int .i64 2, .string ⟨#[]⟩, .slice (some ⟨w4.heap.size, 0, none⟩) 1 1] 24)) (· < ((w4.alloc (.cells #[.string ⟨#[110]⟩, v2] 30)).alloc (.cells #[.int .i64 2, .string ⟨#[]⟩, .slice (some ⟨w4.heap.size, 0, none⟩) 1 1] 24)).heap.size) (.slice (some ⟨w4.heap.size, 0, none⟩) 1 1) awB.cols) := hid ((HQ5.out.keep fun k hk => World.cell?_alloc_lt _ _ _ hk).more fun b hb => by
  have h : b < (w4.alloc (.cells #[.string ⟨#[110]⟩, v2] 30)).heap.size := hb
  rw [World.size_alloc] at h
  omega)
 have c0 := HX15.out.cell 0 rfl
 have c1 := HX15.out.cell 1 rfl
 have c2 := HX15.out.cell 2 rfl
 have d0 := HX5.out.cell 0 rfl
 have d1 := HX5.out.cell 1 rfl
 have d2 := HX5.out.cell 2 rfl
 clear hx5 HQ5 HR4
 go_wp2_with fail
 with_reducible refine (HCO.out _ _ _ HRA.out HRB.out HB5.out).mono ?_
 clear c0 c1 c2 d0 d1 d2
 generalize ((w4.alloc (.cells #[.string ⟨#[110]⟩, v2] 30)).alloc (.cells #[.int .i64 2, .string ⟨#[]⟩, .slice (some ⟨w4.heap.size, 0, none⟩) 1 1] 24)) = W5 at *
 rintro e w6 ⟨rfl, hb6⟩
 have HB6 := hid (HB5.out.trans (hb6.mono HB5.out.size))
 have HX16 := hid (HX15.out.below hb6 HX15.out.lt)
 have HX6 := hid (HX5.out.below hb6 HX5.out.lt)
 have HRA6 := hid ((HRA.out.keep fun k hk => hb6.cell (p := k) hk).more fun b (hb : b < W5.heap.size) => Nat.lt_of_lt_of_le hb hb6.size)
 have HRB6 := hid ((HRB.out.keep fun k hk => hb6.cell (p := k) hk).more fun b (hb : b < W5.heap.size) => Nat.lt_of_lt_of_le hb hb6.size)
 have c0 := HX16.out.cell 0 rfl
 have c1 := HX16.out.cell 1 rfl
 have c2 := HX16.out.cell 2 rfl
 have d0 := HX6.out.cell 0 rfl
 have d1 := HX6.out.cell 1 rfl
 have d2 := HX6.out.cell 2 rfl
 clear hb6 HRA HRB
 go_wp2_with fail
 with_reducible refine (HSC.out _ _ _ HRA6.out HRB6.out HB6.out).mono ?_
 clear c0 c1 c2 d0 d1 d2 HRA6 HRB6
 rintro e w7 ⟨a7, c7, b7, d7, rfl, hN, hb7⟩
 have HB7 := hid (HB6.out.trans (hb7.mono HB6.out.size))
 have HN := hid (hN.rd false)
 clear hN hb7
 have HX8 := hid (BoxN.new w7 #[.bool false, .slice a7 (Fr.dig p).length c7, .bool false, .slice b7 (Fr.dig q).length d7] 49)
 have HB8 : Hid (Below w.heap.size w (w7.alloc (.cells #[.bool false, .slice a7 (Fr.dig p).length c7, .bool false, .slice b7 (Fr.dig q).length d7] 49))) := hid (HB7.out.alloc HB7.out.size _)
 have HN8 := hid (HN.out.kept ((Below.refl w7.heap.size w7).alloc (Nat.le_refl _) (.cells #[.bool false, .slice a7 (Fr.dig p).length c7, .bool false, .slice b7 (Fr.dig q).length d7] 49)))
 have hz8 : (w7.alloc (.cells #[.bool false, .slice a7 (Fr.dig p).length c7, .bool false, .slice b7 (Fr.dig q).length d7] 49)).heap.size = w7.heap.size + 1 := by simp
 go_upto_region 5 with fail
 generalize (w7.alloc (.cells #[.bool false, .slice a7 (Fr.dig p).length c7, .bool false, .slice b7 (Fr.dig q).length d7] 49)) = W8 at *
 generalize w7.heap.size = s7 at *
 generalize (Fr.dig p).length = n1 at *
 generalize (Fr.dig q).length = n2 at *
 have HG := hid (fun W (hW : Below W8.heap.size W8 W) => (⟨(HX8.out.below hW HX8.out.lt).cell 0 rfl, (HX8.out.below hW HX8.out.lt).cell 1 rfl, (HX8.out.below hW HX8.out.lt).cell 2 rfl, (HX8.out.below hW HX8.out.lt).cell 3 rfl⟩ : W.cell? ⟨s7, 0, none⟩ = some (.bool false) ∧ W.cell? ⟨s7, 1, none⟩ = some (.slice a7 n1 c7) ∧ W.cell? ⟨s7, 2, none⟩ = some (.bool false) ∧ W.cell? ⟨s7, 3, none⟩ = some (.slice b7 n2 d7)))
 have HC8 := hid (Below.refl W8.heap.size W8)
 go_region_held3 (fun w' => w'.cell? ⟨s7, 0, none⟩ = some (.bool false) ∧ w'.cell? ⟨s7, 1, none⟩ = some (.slice a7 n1 c7) ∧ w'.cell? ⟨s7, 2, none⟩ = some (.bool false) ∧ w'.cell? ⟨s7, 3, none⟩ = some (.slice b7 n2 d7))
  (first | exact HG.out _ HC10.out | exact HG.out _ HC9.out | exact HG.out _ (by have h1 := HC8.out; repeat' (first | (with_reducible exact Below.refl _ _) | (with_reducible assumption) | (with_reducible refine below_drewN ?_) | (with_reducible refine Below.alloc ?_ ?_ _) | (with_reducible refine Below.drew ?_) | (with_reducible refine Below.setCell ?_ ?_ _) | (with_reducible refine Below.trans ?_ (Below.mono (by with_reducible assumption) ?_)) | go_size)) | go_keep)
  (first
   | (go_at_call 34; go_must ((with_reducible refine (HPA.out _).mono ?_); rintro e w9 ⟨x4, y4, x5, y5, rfl, hN9, hb9⟩; have HC9 : Hid (Below W8.heap.size W8 w9) := hid (by have h1 := HC8.out; repeat' (first | (with_reducible exact Below.refl _ _) | (with_reducible assumption) | (with_reducible refine below_drewN ?_) | (with_reducible refine Below.alloc ?_ ?_ _) | (with_reducible refine Below.drew ?_) | (with_reducible refine Below.setCell ?_ ?_ _) | (with_reducible refine Below.trans ?_ (Below.mono (by with_reducible assumption) ?_)) | go_size)); have HN9 := hid (hN9.rd false); have HN89 := hid (HN8.out.kept HC9.out); clear hb9 hN9))
   | (go_at_call 21; go_must ((with_reducible refine (Fr.ref_Same _ _ p q _ HN89.out HN9.out).mono ?_); rintro e w10 ⟨rfl, hb10⟩; have HC10 : Hid (Below W8.heap.size W8 w10) := hid (HC9.out.trans (hb10.mono HC9.out.size)); clear hb10)))
 all_goals
  go_wp2_with fail
  go_ret
  exact ⟨rfl, HB8.out.trans (HC10.out.mono HB8.out.size)⟩
end Go.Proofs.YthblaeleogdfpaaGreatDoor

namespace Go.Proofs.YthblaeleogdfpaaGreatDoor
open Go.RowKit
def RdI (w : World) (B : Nat) (a : Option Addr) (n c : Nat) : Prop :=
  n ≤ c ∧ c ≤ maxLen ∧ (0 < n → ∃ b o, a = some ⟨b, o, none⟩ ∧ b < B ∧ ∀ i, i < n → ∃ z : Int, w.cell? ⟨b, o + i, none⟩ = some (.int .i64 z))
theorem kit_Light (a : Option Addr) (n c : Nat) (w : World) (hn : n ≤ maxLen) : Calls Tryz.prog 7 #[.slice a n c] w (fun e w' => e = .returned (.bool (decide (n ≤ 500))) ∧ w = w') := by
 unfold maxLen at hn
 by_cases h : n ≤ 500
 ·have h1 : decide ((n : Int) ≤ 500) = true := decide_eq_true (by omega)
  have h2 : decide (n ≤ 500) = true := decide_eq_true h
  go_enter Tryz.func7, Tryz.ntmps7
  go_wp2_with fail
  go_ret
  exact ⟨ret_bool (by simp [h]), rfl⟩
 ·have h1 : decide ((n : Int) ≤ 500) = false := decide_eq_false (by omega)
  have h2 : decide (n ≤ 500) = false := decide_eq_false h
  go_enter Tryz.func7, Tryz.ntmps7
  go_wp2_with fail
  go_ret
  exact ⟨ret_bool (by simp [h]), rfl⟩
def KRoll (w : World) (e : Ending) (w' : World) : Prop := e = .returned (.pointer (some ⟨w.heap.size, 0, none⟩)) ∧ KDice w' w.heap.size ∧ Below w.heap.size w w'
theorem kroll {w : World} {a : Option Addr} {n c : Nat} (h : RdI w w.heap.size a n c) (hn : n ≤ 500) (hp : Pow w) : KRoll w (.returned (.pointer (some ⟨w.heap.size, 0, none⟩))) (w.alloc (.cells #[.slice a n c, .int .i64 0] 88)) := by
 have hb : Below w.heap.size w (w.alloc (.cells #[.slice a n c, .int .i64 0] 88)) := (Below.refl _ _).alloc (Nat.le_refl _) _
 refine ⟨rfl, ⟨⟨hp.lt, hp.below hb (Nat.le_refl _)⟩, a, n, c, 0, heap_alloc_new _ _, Nat.zero_le _, hn, fun h0 => ?_⟩, hb⟩
 obtain ⟨b, o, e, hlt, hc⟩ := h.2.2 h0
 refine ⟨b, o, e, hlt, fun i hi => ?_⟩
 obtain ⟨z, hz⟩ := hc i hi
 exact ⟨z, (World.cell?_alloc_lt _ _ ⟨b, o + i, none⟩ hlt).trans hz⟩
theorem kit_Roll (a : Option Addr) (n c : Nat) (w : World) (h : RdI w w.heap.size a n c) (hn : n ≤ 500) (hp : Pow w) : Calls Tryz.prog 9 #[.slice a n c] w (KRoll w) := by
 have H := hid (kroll h hn hp)
 clear h hp
 go_enter Tryz.func9, Tryz.ntmps9
 go_wp2_with fail
 go_ret
 exact H.out
end Go.Proofs.YthblaeleogdfpaaGreatDoor

namespace Go.Proofs.YthblaeleogdfpaaGreatDoor
open Go.RowKit
theorem szT_of {t : Ta} (h : TabV t) : SzT t := by
 obtain ⟨h0, h1, hn, hl, n, hn4, hc⟩ := h
 refine ⟨?_, by have := hn.1; omega, fun c hcm => ⟨by have := (hc c hcm).1.1; omega, fun d hd => by have := ((hc c hcm).2.2 d hd).2.1; omega⟩⟩
 have e : t.id = wrap64 t.id := by unfold wrap64; omega
 rw [e]
 exact wrap64_wf _
theorem rdI_later {w w' : World} {a : Option Addr} {n c : Nat} (h : RdI w w.heap.size a n c) (hb : Below w.heap.size w w') : RdI w' w'.heap.size a n c := by
 refine ⟨h.1, h.2.1, fun h0 => ?_⟩
 obtain ⟨b, o, e, hlt, hc⟩ := h.2.2 h0
 refine ⟨b, o, e, Nat.lt_of_lt_of_le hlt hb.size, fun i hi => ?_⟩
 obtain ⟨z, hz⟩ := hc i hi
 exact ⟨z, (hb.cell (p := ⟨b, o + i, none⟩) hlt).trans hz⟩
def AlignU (w : World) (xs ys : List Co) (e : Ending) (w' : World) : Prop :=
  Below w.heap.size w w' ∧ ∃ (g : Bool) (a : Option Addr) (m c : Nat), e = .returned (.tuple #[.slice a m c, .bool g]) ∧ (g = true ↔ Aligns xs ys) ∧ (m = if g = true then xs.length else 0) ∧ InK 1 w' (· < w'.heap.size) (.slice a m c) m (fun j _ => .int .i64 (((alignL xs ys).getD j 0 : Nat) : Int))
structure PairAt (W : World) (pb q : Nat) (x y : Ta) (xa ya : Option Addr) (xk yk : Nat) : Prop where
  c0 : W.cell? ⟨pb, q * 6, none⟩ = some (.int .i64 x.id)
  c1 : W.cell? ⟨pb, q * 6 + 1, none⟩ = some (.string x.name)
  c2 : W.cell? ⟨pb, q * 6 + 2, none⟩ = some (.slice xa x.cols.length xk)
  c3 : W.cell? ⟨pb, q * 6 + 3, none⟩ = some (.int .i64 y.id)
  c4 : W.cell? ⟨pb, q * 6 + 4, none⟩ = some (.string y.name)
  c5 : W.cell? ⟨pb, q * 6 + 5, none⟩ = some (.slice ya y.cols.length yk)
  rx : RdCo W (· < W.heap.size) (.slice xa x.cols.length xk) x.cols
  ry : RdCo W (· < W.heap.size) (.slice ya y.cols.length yk) y.cols
  sx : SzT x
  sy : SzT y
  lx : x.cols.length ≤ 1048576
  ly : y.cols.length ≤ 1048576
structure TabAt (W : World) (t : Ta) (i : Int) (nm : ByteArray) (a : Option Addr) (l k : Nat) : Prop where
  id : t.id = i
  nm : t.name = nm
  ln : t.cols.length = l
  rd : RdCo W (· < W.heap.size) (.slice a l k) t.cols
  sz : SzT t
  le : l ≤ 1048576
end Go.Proofs.YthblaeleogdfpaaGreatDoor
