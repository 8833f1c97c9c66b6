/- Contract of bounded.begin. Contract of bounded.begin. Plain: the hits from a score on are the beginning of all (chapter 20). No program in sight. DERIVED: THE SHELF's CONTRACTS AT THIS DUMP, IN PLAIN WORDS (tools/lay-plain.mjs out of 'YtikiimlmoalbcaaGreatDoorShHL.lean', which tools/lay-shelf.mjs wrote): THE SAME DECLARATIONS UNDER THE SAME NAMES: 'import', 'namespace', 'open', 'def', 'theorem' AND NOTHING ELSE: no command of the shelf's: FOR A HAND-IN. Each laying: the table of numbers ('.._ren') and one theorem, a field a fact of the dump's own or the kernel's comparison; each contract: ONE APPLICATION. Contract of fraction's product of words. Contracts of bits.Add32, bits.Sub32, words.at. -/
import Derived.Test.YtikiimlmoalbcaaGreatDoorOOtav
import Derived.Test.YtikiimlmoalbcaaGreatDoorOOtaq
import Derived.Shelf.SlSortCmp.WholeK
import Derived.Ground.SlsfProg
import Derived.Test.YtikiimlmoalbcaaGreatDoorProg
import Derived.Test.YtikiimlmoalbcaaGreatDoorOOtat
import Derived.OpenShut
import Derived.IntWalk
import Derived.Test.YtikiimlmoalbcaaGreatDoorOOtas
set_option linter.unusedVariables false
set_option linter.unusedSimpArgs false
namespace Go.Proofs.YtikiimlmoalbcaaGreatDoor
open Go.RowKit
set_option maxRecDepth 100000 in
set_option maxHeartbeats 4000000 in
theorem sort_none (xb : Nat) (w : World) :
    Calls Tryz.prog 153 #[.slice none 0 0, .func (.func 154) #[] #[.pointer (some ⟨xb, 0, none⟩)]] w (fun e w' => e = .returned (.tuple #[]) ∧ w' = w) := by
  have HI : ∀ W, Calls Tryz.prog 214 #[.slice none 0 0, .int .i64 0, .int .i64 0, .func (.func 154) #[] #[.pointer (some ⟨xb, 0, none⟩)]] W (fun e w' => e = .returned (.tuple #[]) ∧ w' = W) := by
    intro W
    go_enter Tryz.func214, Tryz.ntmps214
    go_wp2
    refine wp_loop_rounds 1 ?_
    rw [rounds_succ]
    go_wp2
    go_end0
    exact ⟨rfl, rfl⟩
  have HSS : ∀ W, Calls Tryz.prog 185 #[.slice none 0 0, .int .i64 0, .func (.func 154) #[] #[.pointer (some ⟨xb, 0, none⟩)]] W (fun e w' => e = .returned (.tuple #[]) ∧ w' = W) := by
    intro W
    go_enter Tryz.func185, Tryz.ntmps185
    go_wp2_with fail
    refine wp_loop_rounds 1 ?_
    rw [rounds_succ]
    go_wp2_with fail
    with_reducible refine (HI _).mono ?_
    rintro e w1 ⟨rfl, rfl⟩
    go_wp2_with fail
    refine wp_loop_rounds 1 ?_
    rw [rounds_succ]
    go_wp2
    go_end0
    exact ⟨rfl, rfl⟩
  go_enter Tryz.func153, Tryz.ntmps153
  go_wp2_with fail
  with_reducible refine (HSS _).mono ?_
  rintro e w1 ⟨rfl, rfl⟩
  go_wp2
  go_end0
  exact ⟨rfl, rfl⟩
structure BgSt (w wr : World) (cs : List Cv) (ev vv lv qv fv : Value) (E : Nat) (xa : Option Addr) (xc : Nat) (pl : List Nat) : Prop where
  below : Below w.heap.size w wr
  ix : BoxN wr w.heap.size 30 #[ev, vv, lv]
  box : SrcBox wr (w.heap.size + 2) ev vv lv qv (.slice xa pl.length xc) 0 (.slice (some ⟨w.heap.size + 1, 0, none⟩) E E) fv
  low : RowI wr w.heap.size (w.heap.size + 1) E E (List.replicate E 0)
  own : wr.ownsRow (w.heap.size + 3) 3 1 (.slice xa pl.length xc) pl.length (natsV pl)
  nil : pl.length = 0 → xa = none ∧ xc = 0
  lt : ∀ j, j < pl.length → pl.getD j 0 < (setOfL (allOf cs)).length
theorem BgSt.push {w wr w7 : World} {cs : List Cv} {ev vv lv qv fv : Value} {E : Nat} {xa : Option Addr} {xc : Nat} {pl : List Nat} (h : BgSt w wr cs ev vv lv qv fv E xa xc pl) {O : Obj} {g cap z : Nat} {m : Nat} (hm : m = pl.length)
    (hown : w7.ownsRow (w.heap.size + 3) 3 1 (.slice (some ⟨g, 0, none⟩) (m + 1) cap) (m + 1) (natsV pl ++ [.int .i64 (z : Int)])) (hg : (wr.alloc O).grownBy w7 (Value.slice xa m xc).ownBlock) (hz : z < (setOfL (allOf cs)).length) :
    BgSt w (w7.setCell ⟨w.heap.size + 2, 4, none⟩ (.slice (some ⟨g, 0, none⟩) (m + 1) cap)) cs ev vv lv qv fv E (some ⟨g, 0, none⟩) cap (pl ++ [z]) := by
  subst hm
  have hb : ∀ k, (Value.slice xa pl.length xc).ownBlock = some k → w.heap.size + 3 ≤ k := fun k hk => (h.own.lt k hk).1
  have hgl : w.heap.size + 3 ≤ g ∧ g < w7.heap.size := hown.lt g rfl
  have hsz := h.box.lt
  have B1 : Below w.heap.size w w7 := below_grownQ (h.below.alloc (by omega) O) hg (fun k hk => by have := hb k hk; omega)
  have e1 : (pl ++ [z]).length = pl.length + 1 := by simp
  have R1 : RowI w7 (w.heap.size + 3) g cap (pl.length + 1) (pl ++ [z]) := ⟨e1, by simpa [natsV] using hown⟩
  have R2 : RowI (w7.setCell ⟨w.heap.size + 2, 4, none⟩ (.slice (some ⟨g, 0, none⟩) (pl.length + 1) cap)) (w.heap.size + 3) g cap (pl.length + 1) (pl ++ [z]) := R1.same (Below.heap_setCell _ _ _ _ (by show g ≠ w.heap.size + 2; omega))
  refine ⟨B1.setCell (p := ⟨w.heap.size + 2, 4, none⟩) (by show w.heap.size ≤ w.heap.size + 2; omega) _, ?_, ?_, ?_, ?_, fun h0 => by rw [e1] at h0; omega, fun j hj => ?_⟩
  · exact BoxN.other ((h.ix.alloc O).grown hg (fun e => by have := hb _ e.symm; omega)) (by show w.heap.size + 2 ≠ w.heap.size; omega) _
  · rw [e1]
    exact BoxN.set (BoxN.grown (BoxN.alloc h.box O) hg (fun e => by have := hb _ e.symm; omega)) 4 _
  · refine h.low.same ?_
    have hl := h.low.lt
    exact (Below.heap_setCell _ _ _ _ (by show w.heap.size + 1 ≠ w.heap.size + 2; omega)).trans ((hg.block _ (by rw [World.size_alloc]; omega) (fun e => by have := hb _ e.symm; omega)).trans (Below.heap_alloc _ _ _ hl.2))
  · rw [e1]
    exact R2.2
  · rw [e1] at hj
    by_cases hjl : j < pl.length
    · have h1 := h.lt j hjl
      simpa [List.getD, List.getElem?_append_left hjl] using h1
    · obtain rfl : j = pl.length := by omega
      simpa [List.getD] using hz
def BeginP (w : World) (cs : List Cv) (q : List ByteArray) (ev vv lv qv fv : Value) (e : Ending) (w' : World) : Prop :=
  ∃ sb lb xa xc cap pl, e = .returned (.pointer (some ⟨sb, 0, none⟩)) ∧ SrcSt w w' cs q ev vv lv qv fv sb lb xa xc cap pl 0
theorem BgSt.done {w wr w8 : World} {cs : List Cv} {q : List ByteArray} {ev vv lv qv fv : Value} {xc pb : Nat} {pl ys : List Nat} (h : BgSt w wr cs ev vv lv qv fv cs.length (some ⟨pb, 0, none⟩) xc pl)
    (hv : vsOf cs pl = q.filter (hasL (setOfL (allOf cs)))) (hp : ys.Perm pl) (hr : RowI w8 (w.heap.size + 3) pb xc pl.length ys) (hb : BarZ wr pb w8) :
    SrcSt w w8 cs q ev vv lv qv fv (w.heap.size + 2) (w.heap.size + 1) (some ⟨pb, 0, none⟩) xc cs.length ys 0 := by
  have hpb := hr.lt
  have hsz := h.box.lt
  have hlz := h.low.lt
  have e1 : ys.length = pl.length := hp.length_eq
  have hpo : 0 < pl.length := by
    rcases Nat.eq_zero_or_pos pl.length with h0 | h0
    · have := h.nil h0; simp at this
    · exact h0
  refine ⟨?_, ?_, ?_, fun h0 => by omega, fun j hj => ?_, ?_, Nat.zero_le _, ⟨by omega, by omega⟩, h.below.trans (hb.below h.below.size (by omega))⟩
  · rw [e1]
    exact (hb.block _ hsz (by omega)).trans h.box
  · rw [lowsL_zero]
    exact h.low.same (hb.block _ hlz.2 (by omega))
  · rw [e1]
    have h1 := hr.2
    rw [← e1] at h1
    have h2 := inN_of_own h1
    rw [e1] at h2
    refine InK.more h2 fun b hb' => ?_
    simp [Value.ownBlock] at hb'
    subst hb'
    omega
  · have h1 : ys.getD j 0 ∈ pl := hp.mem_iff.1 (getD_mem hj 0)
    obtain ⟨i, hi, e⟩ := List.getElem_of_mem h1
    have h2 := h.lt i hi
    rwa [← List.getElem_eq_getD, e] at h2
    exact hi
  · unfold ReadOk
    rw [← hv]
    exact hp.map _
theorem BgSt.none {w wr : World} {cs : List Cv} {q : List ByteArray} {ev vv lv qv fv : Value} {xc : Nat} {xa : Option Addr} {pl : List Nat} (h : BgSt w wr cs ev vv lv qv fv cs.length xa xc pl)
    (hv : vsOf cs pl = q.filter (hasL (setOfL (allOf cs)))) (hp : pl.length = 0) :
    SrcSt w wr cs q ev vv lv qv fv (w.heap.size + 2) (w.heap.size + 1) xa xc cs.length pl 0 := by
  have hsz := h.box.lt
  refine ⟨h.box, by rw [lowsL_zero]; exact h.low, ?_, h.nil, h.lt, ?_, Nat.zero_le _, ⟨by omega, by omega⟩, h.below⟩
  · obtain ⟨rfl, rfl⟩ := h.nil hp
    have e : pl = [] := List.eq_nil_of_length_eq_zero hp
    subst e
    exact InK.nil
  · unfold ReadOk
    rw [← hv]
end Go.Proofs.YtikiimlmoalbcaaGreatDoor

namespace Go.Proofs.YtikiimlmoalbcaaGreatDoor
open Go.RowKit
set_option maxRecDepth 100000 in
set_option maxHeartbeats 8000000 in
theorem src_begin (cs : List Cv) (q : List ByteArray) (ev vv lv qv : Value) (ff : Fn) (fa fc : Array Value) (w : World) (hin : SrcIn w cs q ev vv lv qv) :
  Calls Tryz.prog 104 #[.agg #[ev, vv, lv], qv, .func ff fa fc] w (BeginP w cs q ev vv lv qv (.func ff fa fc)) := by
 obtain ⟨i0, hi0, hz0, hz1, hz2⟩ := info_parts info_int'
 have hE : cs.length ≤ 65536 := hin.ok.many
 have hvals := hin.vals
 have hql := hin.ql
 obtain ⟨ea, ec, rfl, -, hem, -⟩ := hin.rd.ents
 obtain ⟨va, vc, rfl, hvc, hvm, hvr⟩ := id hin.rd.vals
 obtain ⟨lf, ⟨la, lc, rfl, -⟩, -⟩ := id hin.rd.lists
 obtain ⟨qa, qc, rfl, hqc, hqm, hqr⟩ := id hin.qrd
 have hel : (indexOf cs).ents.length = cs.length := ents_len cs
 have hvl : (indexOf cs).vals.length = (setOfL (allOf cs)).length := rfl
 have hll : (indexOf cs).lists.length = (setOfL (allOf cs)).length := idx_lists cs
 rw [hel] at *
 rw [hvl] at *
 rw [hll] at *
 clear hel hvl hll
 have HIN := hid hin
 have HVR := hid (fun W s (hW : Below w.heap.size w W) => lib_BinAt (.slice va (setOfL (allOf cs)).length vc) (setOfL (allOf cs)) s W.heap.size W ((hin.later hW).rd.vals.rds fun _ h => h) (setOfL_asc _) (by omega))
 have HQR := hid (fun i (hi : i < q.length) => (by
  obtain ⟨b, o, e, hlt, hc⟩ := hqr (by omega)
  exact ⟨b, o, e, hlt, hc i hi⟩ : ∃ b o, qa = some ⟨b, o, none⟩ ∧ b < w.heap.size ∧ w.cell? ⟨b, o + i, none⟩ = some (.string (q.getD i ⟨#[]⟩))))
 have HFT := hid (fun i (h : i < q.length) => filter_take (hasL (setOfL (allOf cs))) h)
 have HFA : Hid ((q.take q.length).filter (hasL (setOfL (allOf cs))) = q.filter (hasL (setOfL (allOf cs)))) := hid (by rw [List.take_length])
 have hmk := made_int_row cs.length (by omega)
 have HX0 := BoxN.new w #[.slice ea cs.length ec, .slice va (setOfL (allOf cs)).length vc, .slice la (setOfL (allOf cs)).length lc] 30
 have HB0 := (Below.refl w.heap.size w).alloc (Nat.le_refl _) (.cells #[.slice ea cs.length ec, .slice va (setOfL (allOf cs)).length vc, .slice la (setOfL (allOf cs)).length lc] 30)
 have x0 := HX0.cell 0 rfl
 have x1 := HX0.cell 1 rfl
 have x2 := HX0.cell 2 rfl
 clear hin hqr hvr
 unfold maxLen at *
 obtain ⟨W0, hW0⟩ : ∃ W0, W0 = w.alloc (.cells #[.slice ea cs.length ec, .slice va (setOfL (allOf cs)).length vc, .slice la (setOfL (allOf cs)).length lc] 30) := ⟨_, rfl⟩
 have hz : W0.heap.size = w.heap.size + 1 := by rw [hW0, World.size_alloc]
 rw [← hW0] at HX0 HB0 x0 x1 x2
 have HX := hid HX0
 have HB := hid HB0
 clear HX0 HB0
 go_enter Tryz.func104, Tryz.ntmps104
 generalize hLA : Code.loop _ = LA
 go_upto_region 1 with fail
 rw [← hW0]
 clear hW0
 go_region
 have HST : Hid (BgSt w ((W0.alloc (Obj.cells (madeCells #[Value.int IntKind.i64 0] cs.length) 3)).alloc (Obj.cells #[Value.slice ea cs.length ec, Value.slice va (setOfL (allOf cs)).length vc, Value.slice la (setOfL (allOf cs)).length lc, Value.slice qa q.length qc, Value.slice none 0 0, Value.int IntKind.i64 0, Value.slice (some { block := w.heap.size + 1, off := 0 }) cs.length cs.length, Value.func ff fa fc] 152)).drew cs (.slice ea cs.length ec) (.slice va (setOfL (allOf cs)).length vc) (.slice la (setOfL (allOf cs)).length lc) (.slice qa q.length qc) (.func ff fa fc) cs.length none 0 []) := hid (by
  have b1 : Below w.heap.size w ((W0.alloc (Obj.cells (madeCells #[Value.int IntKind.i64 0] cs.length) 3)).alloc (Obj.cells #[Value.slice ea cs.length ec, Value.slice va (setOfL (allOf cs)).length vc, Value.slice la (setOfL (allOf cs)).length lc, Value.slice qa q.length qc, Value.slice none 0 0, Value.int IntKind.i64 0, Value.slice (some { block := w.heap.size + 1, off := 0 }) cs.length cs.length, Value.func ff fa fc] 152)).drew := (((HB.out.alloc (by omega) _).alloc (by rw [World.size_alloc]; omega) _)).drew
  have b2 := BoxN.new (W0.alloc (Obj.cells (madeCells #[Value.int IntKind.i64 0] cs.length) 3)) #[Value.slice ea cs.length ec, Value.slice va (setOfL (allOf cs)).length vc, Value.slice la (setOfL (allOf cs)).length lc, Value.slice qa q.length qc, Value.slice none 0 0, Value.int IntKind.i64 0, Value.slice (some { block := w.heap.size + 1, off := 0 }) cs.length cs.length, Value.func ff fa fc] 152
  rw [World.size_alloc, hz] at b2
  have b3 := zeros_row W0 cs.length (by omega) w.heap.size (by omega)
  rw [hz] at b3
  refine ⟨b1, ?_, ?_, ?_, World.ownsRow_nil _ _ _ _, fun _ => ⟨rfl, rfl⟩, fun j hj => absurd hj (by simp)⟩
  ·exact (HX.out.alloc _).alloc _
  ·exact b2
  ·refine b3.same ?_
   exact Below.heap_alloc _ _ _ b3.lt.2)
 rw [show w.heap.size + 1 + 1 = w.heap.size + 2 from rfl]
 generalize ((W0.alloc (Obj.cells (madeCells #[Value.int IntKind.i64 0] cs.length) 3)).alloc (Obj.cells #[Value.slice ea cs.length ec, Value.slice va (setOfL (allOf cs)).length vc, Value.slice la (setOfL (allOf cs)).length lc, Value.slice qa q.length qc, Value.slice none 0 0, Value.int IntKind.i64 0, Value.slice (some { block := w.heap.size + 1, off := 0 }) cs.length cs.length, Value.func ff fa fc] 152)).drew = W1 at *
 clear hmk x0 x1 x2 HX HB hz
 obtain ⟨len, hlen⟩ : ∃ len, len = q.length := ⟨_, rfl⟩
 rw [← hlen] at hql hqc
 subst hLA
 go_wp2_with fail
 go_loopg [23, 9, 10, 11] q.length (fun K i u1 u2 u3 wr => ∃ (p : Nat) (pl : List Nat) (xa : Option Addr) (xc : Nat), i = .int .i64 (p : Int) ∧ p + K = q.length ∧ Hid (vsOf cs pl = (q.take p).filter (hasL (setOfL (allOf cs)))) ∧ Hid (BgSt w wr cs (.slice ea cs.length ec) (.slice va (setOfL (allOf cs)).length vc) (.slice la (setOfL (allOf cs)).length lc) (.slice qa q.length qc) (.func ff fa fc) cs.length xa xc pl))
 case atStart => exact ⟨0, [], none, 0, rfl, by omega, hid (by simp [vsOf]), HST⟩
 case round =>
  obtain ⟨p, pl, xa, xc, rfl, hp0, HV, HS⟩ := hrel
  clear HST
  by_cases hp : 0 < gk
  ·have hpl : (p : Int) < (q.length : Int) := by omega
   obtain ⟨b, o, rfl, hbl, k0⟩ := HQR.out p (by omega)
   have k0 := (HS.out.below.cell (p := ⟨b, o + p, none⟩) hbl).trans k0
   have HSTEP := hid (HFT.out p (by omega))
   generalize hs : q.getD p ⟨#[]⟩ = s at *
   have HBQ := hid (HVR.out wr s HS.out.below)
   have x1 := HS.out.ix.cell 1 rfl
   have hpll : pl.length ≤ 1048576 := by
    have h1 : (vsOf cs pl).length = pl.length := by simp [vsOf]
    rw [HV.out] at h1
    have h2 := List.length_filter_le (hasL (setOfL (allOf cs))) (q.take p)
    rw [List.length_take] at h2
    omega
   clear hs
   cases hF : hasL (setOfL (allOf cs)) s
   ·rw [hF] at HBQ HSTEP
    go_wp2_with fail
    with_reducible refine HBQ.out.mono ?_
    rintro e w2 ⟨z, rfl, rfl, -⟩
    go_wp2_with fail
    go_roundg (gk - 1)
    case rel => exact ⟨p + 1, pl, xa, xc, by go_num, by omega, hid (by rw [HSTEP.out, HV.out]; simp), HS⟩
    case measure => omega
   ·rw [hF] at HBQ HSTEP
    have y4 := BoxN.cell HS.out.box 4 rfl
    go_wp2_with fail
    with_reducible refine HBQ.out.mono ?_
    rintro e w2 ⟨z, rfl, rfl, hz⟩
    obtain ⟨n, rfl, hnl, hns⟩ := hz rfl
    have HNS := hid hns
    clear hz hns
    obtain ⟨m, hm⟩ : ∃ m, m = pl.length := ⟨_, rfl⟩
    have HM := hid hm
    rw [← hm] at y4 hpll
    have HO : Hid (w2.ownsRow (w.heap.size + 3) 3 1 (.slice xa m xc) m (natsV pl)) := hid (by rw [hm]; exact HS.out.own)
    have hwz : w.heap.size + 3 ≤ w2.heap.size := by have := HS.out.box.lt; omega
    have HSB := hid (fun w7 O g cap h1 h2 => HS.out.push (w7 := w7) (O := O) (g := g) (cap := cap) (z := n) HM.out h1 h2 hnl)
    have HKX := hid (fun w7 O (hg : (w2.alloc O).grownBy w7 (Value.slice xa m xc).ownBlock) => (BoxN.grown (BoxN.alloc HS.out.box O) hg (fun e => by have := (HO.out.lt _ e.symm).1; omega)))
    clear hm
    go_wp2_with (at_builtin; refine wpList_append_form _ rfl (.tmp 39) (.tmp 41) 34 34 rfl (w.heap.size + 3) 3 3 i0 (.int .i64 0) 1 8 Tryz.underlying34 Tryz.underlying34 hi0 hz0 hz1 hz2 rfl (by decide) (.slice xa m xc) m (natsV pl) rfl (HO.out.alloc _) (some ⟨_, 0, none⟩) 1 1 [.int .i64 (n : Int)] rfl rfl (fun _ => ⟨_, rfl, cell_one_new _ _ _⟩) (by intro u hu; simp at hu; subst hu; rfl) (by omega) (by unfold maxLen; omega) (by omega) (by simp; omega) ?_; intro g7 cap7 w7 hown7 hg7 hat7 hlt7; have HOWN7 := hid hown7; have HG7 := hid hg7; have y4 := BoxN.cell (HKX.out _ _ hg7) 4 rfl; have f4 := BoxN.frozen (HKX.out _ _ hg7) 4; clear hown7 hg7 hat7)
    go_wp2
    go_roundg (gk - 1)
    case rel => exact ⟨p + 1, pl ++ [n], _, cap7, by go_num, by omega, hid (by rw [HSTEP.out, ← HV.out]; simp only [vsOf, List.map_append, List.map_cons, List.map_nil]; rw [show valAt cs n = s from HNS.out]; simp), hid (HSB.out _ _ _ _ HOWN7.out HG7.out)⟩
    case measure => omega
  ·obtain rfl : gk = 0 := by omega
   obtain rfl : p = q.length := by omega
   rw [HFA.out] at HV
   have y4 := BoxN.cell HS.out.box 4 rfl
   by_cases hp0 : pl.length = 0
   ·have HD := hid (HS.out.none HV.out hp0)
    obtain ⟨rfl, rfl⟩ := HS.out.nil hp0
    rw [hp0] at y4
    go_wp2_with fail
    with_reducible refine (sort_none _ _).mono ?_
    rintro e w8 ⟨rfl, rfl⟩
    go_wp2
    go_ret
    exact ⟨_, _, _, _, _, _, rfl, HD.out⟩
   ·have hown := HS.out.own
    have hlt := HS.out.lt
    obtain ⟨pb, xc', -, e, hpb, -⟩ : ∃ g cap cur, Value.slice xa pl.length xc = .slice (some ⟨g, 0, none⟩) pl.length cap ∧ w.heap.size + 3 ≤ g ∧ wr.heap[g]? = some (.cells cur 3 (0, 0)) := by
     rcases hown.2 with ⟨-, h0⟩ | ⟨g, cap, cur, e, h1, h2, -⟩
     ·exact absurd h0 hp0
     ·exact ⟨g, cap, cur, e, h1, h2⟩
    obtain ⟨rfl, -, rfl⟩ := Value.slice.inj e
    have HR : Hid (RowI wr (w.heap.size + 3) pb xc pl.length pl) := hid ⟨rfl, hown⟩
    have hpll : pl.length ≤ 1048576 := by
     have h1 : (vsOf cs pl).length = pl.length := by simp [vsOf]
     rw [HV.out] at h1
     have h2 := List.length_filter_le (hasL (setOfL (allOf cs))) q
     omega
    have hix := HS.out.ix
    have hixl := hix.lt
    have HC : Hid (CmpQ pl pb w.heap.size wr) := hid (fun W hW x hx y hy => by
     have hBW : Below w.heap.size w W := HS.out.below.trans (hW.below HS.out.below.size (by omega))
     have hSI := HIN.out.later hBW
     have hm : ∀ z ∈ pl, z < (indexOf cs).lists.length := fun z hz => by
      obtain ⟨i, hi, e⟩ := List.getElem_of_mem hz
      have h2 := hlt i hi
      rw [← List.getElem_eq_getD (h := hi), e] at h2
      rw [idx_lists]
      exact h2
     have hixW : BoxN W w.heap.size 30 #[.slice ea cs.length ec, .slice va (setOfL (allOf cs)).length vc, .slice la (setOfL (allOf cs)).length lc] := (hW.block _ hixl (by omega)).trans hix
     have hrdW := hSI.rd
     first
      | exact begin_cmp (indexOf cs) _ _ _ _ x y _ W hrdW (fun _ h => h) hixW (hm x hx) (hm y hy)
      | exact begin_cmp (indexOf cs) _ _ _ _ x y _ W hrdW (fun _ h => h) (by rw [show (indexOf cs).ents.length = cs.length from ents_len cs, show (indexOf cs).vals.length = (setOfL (allOf cs)).length from rfl, idx_lists]; exact hixW) (hm x hx) (hm y hy))
    have HSO := hid (sort_stable pl _ pb xc pl.length w.heap.size wr HR.out hpll HC.out)
    have HDN := hid (fun w8 ys h1 h2 h3 => HS.out.done (w8 := w8) (ys := ys) HV.out h1 h2 h3)
    have hpl1 : pl.length = pl.length := rfl
    clear e hown hlt HC
    generalize hml : pl.length = m at *
    go_wp2_with fail
    with_reducible refine HSO.out.mono ?_
    rintro e w8 ⟨rfl, ys, h1, h2, h3⟩
    have HD := hid (HDN.out w8 ys h1 h2 h3)
    clear h1 h2 h3
    go_wp2
    go_ret
    exact ⟨_, _, _, _, _, _, rfl, HD.out⟩
end Go.Proofs.YtikiimlmoalbcaaGreatDoor

namespace Go.Proofs.YtikiimlmoalbcaaGreatDoor
open Go.RowKit
def geU (den : Nat → Nat → Nat) (cs : List Cv) (qs : List ByteArray) (p q c : Nat) : Bool := decide (p * den (comC cs qs c) (sizeC cs c) ≤ comC cs qs c * q)
end Go.Proofs.YtikiimlmoalbcaaGreatDoor

namespace Go.Proofs
open Go.Shelf
def Tryz.sortHit_ren : Go.Shelf.Ren := ⟨fun | 6 => 109 | 15 => 160 | 14 => 159 | 28 => 197 | 29 => 198 | 20 => 189 | 21 => 190 | 22 => 191 | 23 => 192 | 24 => 193 | 25 => 194 | 26 => 195 | 27 => 196 | 46 => 218 | 47 => 219 | 48 => 220 | 49 => 221 | 50 => 222 | 57 => 243 | n => n, fun | 22 => 33 | 24 => 53 | 25 => 122 | 3 => 3 | 39 => 161 | 0 => 0 | 53 => 132 | 55 => 159 | 4 => 4 | 46 => 217 | 45 => 216 | 50 => 106 | 5 => 5 | 9 => 9 | 66 => 239 | 70 => 243 | 76 => 256 | 77 => 59 | n => n, fun | n => n⟩
theorem Tryz.sortHit : Go.Proofs.SlLaysF0.n6 Tryz.prog Tryz.sortHit_ren := {
 mixed := by kernel_rfl
 f6 := ⟨Tryz.f109.name, by decide, Tryz.func109.trans (congrArg some (by kernel_rfl))⟩
 f14 := ⟨Tryz.f159.name, by decide, Tryz.func159.trans (congrArg some (by kernel_rfl))⟩
 f15 := Tryz.func160.trans (congrArg some (by kernel_rfl))
 f20 := ⟨Tryz.f189.name, by decide, Tryz.func189.trans (congrArg some (by kernel_rfl))⟩
 f21 := ⟨Tryz.f190.name, by decide, Tryz.func190.trans (congrArg some (by kernel_rfl))⟩
 f22 := ⟨Tryz.f191.name, by decide, Tryz.func191.trans (congrArg some (by kernel_rfl))⟩
 f23 := ⟨Tryz.f192.name, by decide, Tryz.func192.trans (congrArg some (by kernel_rfl))⟩
 f24 := ⟨Tryz.f193.name, by decide, Tryz.func193.trans (congrArg some (by kernel_rfl))⟩
 f25 := ⟨Tryz.f194.name, by decide, Tryz.func194.trans (congrArg some (by kernel_rfl))⟩
 f26 := ⟨Tryz.f195.name, by decide, Tryz.func195.trans (congrArg some (by kernel_rfl))⟩
 f27 := ⟨Tryz.f196.name, by decide, Tryz.func196.trans (congrArg some (by kernel_rfl))⟩
 f28 := Tryz.func197.trans (congrArg some (by kernel_rfl))
 f29 := Tryz.func198.trans (congrArg some (by kernel_rfl))
 f46 := ⟨Tryz.f218.name, by decide, Tryz.func218.trans (congrArg some (by kernel_rfl))⟩
 f47 := Tryz.func219.trans (congrArg some (by kernel_rfl))
 f48 := Tryz.func220.trans (congrArg some (by kernel_rfl))
 f49 := ⟨Tryz.f221.name, by decide, Tryz.func221.trans (congrArg some (by kernel_rfl))⟩
 f50 := ⟨Tryz.f222.name, by decide, Tryz.func222.trans (congrArg some (by kernel_rfl))⟩
 f57 := ⟨Tryz.f243.name, by decide, Tryz.func243.trans (congrArg some (by kernel_rfl))⟩
 t0 := Tryz.underlying0
 a0 := Tryz.isAgg0
 z0 := Tryz.sizeOf0
 v0 := Tryz.zeroValue0
 t3 := Tryz.underlying3
 a3 := Tryz.isAgg3
 z3 := Tryz.sizeOf3
 v3 := Tryz.zeroValue3
 t4 := Tryz.underlying4
 a4 := Tryz.isAgg4
 z4 := Tryz.sizeOf4
 v4 := Tryz.zeroValue4
 t5 := Tryz.underlying5
 a5 := Tryz.isAgg5
 z5 := Tryz.sizeOf5
 v5 := Tryz.zeroValue5
 t9 := Tryz.underlying9
 a9 := Tryz.isAgg9
 z9 := Tryz.sizeOf9
 v9 := Tryz.zeroValue9
 t22 := Tryz.underlying33
 a22 := Tryz.isAgg33
 z22 := Tryz.sizeOf33
 v22 := Tryz.zeroValue33
 t25 := Tryz.underlying122
 a25 := Tryz.isAgg122
 z25 := Tryz.sizeOf122
 v25 := Tryz.zeroValue122
 t39 := Tryz.underlying161
 a39 := Tryz.isAgg161
 z39 := Tryz.sizeOf161
 v39 := Tryz.zeroValue161
 t45 := Tryz.underlying216
 a45 := Tryz.isAgg216
 z45 := Tryz.sizeOf216
 v45 := Tryz.zeroValue216
 t46 := Tryz.underlying217
 a46 := Tryz.isAgg217
 z46 := Tryz.sizeOf217
 v46 := Tryz.zeroValue217
 t50 := Tryz.underlying106
 a50 := Tryz.isAgg106
 z50 := Tryz.sizeOf106
 v50 := Tryz.zeroValue106
 t53 := Tryz.underlying132
 a53 := Tryz.isAgg132
 z53 := Tryz.sizeOf132
 v53 := Tryz.zeroValue132
 t55 := Tryz.underlying159
 a55 := Tryz.isAgg159
 z55 := Tryz.sizeOf159
 v55 := Tryz.zeroValue159
 t66 := Tryz.underlying239
 a66 := Tryz.isAgg239
 z66 := Tryz.sizeOf239
 v66 := Tryz.zeroValue239
 t70 := Tryz.underlying243
 a70 := Tryz.isAgg243
 z70 := Tryz.sizeOf243
 v70 := Tryz.zeroValue243
 t76 := Tryz.underlying256
 a76 := Tryz.isAgg256
 z76 := Tryz.sizeOf256
 v76 := Tryz.zeroValue256
 t77 := Tryz.underlying59
 a77 := Tryz.isAgg59
 z77 := Tryz.sizeOf59
 v77 := Tryz.zeroValue59 }
end Go.Proofs

namespace Go.Proofs.YtikiimlmoalbcaaGreatDoor.Fr
open Go.RowKit
set_option maxRecDepth 100000 in
set_option maxHeartbeats 2000000 in
theorem frac_times (u v : Value) (xs ys : List Nat) (w : World) (hx : Rd32 w u xs) (hy : Rd32 w v ys) (hlx : xs.length ≤ 1073741824) (hly : ys.length ≤ 1073741824) :
  Calls Tryz.prog 176 #[u, v] w (GivesD w (val xs * val ys)) := by
 obtain ⟨a, c, rfl, hc, hm, hxr, hxc⟩ := hx
 obtain ⟨a', c', rfl, hc', hm', hyr, hyc⟩ := hy
 unfold maxLen at hm hm'
 obtain ⟨i0, hi, hz0, hz1, hz2⟩ := info_parts info_u32
 obtain ⟨n, hn⟩ : ∃ n, n = xs.length := ⟨_, rfl⟩
 obtain ⟨n', hn'⟩ : ∃ n, n = ys.length := ⟨_, rfl⟩
 rw [← hn] at hc hxc hlx ⊢
 rw [← hn'] at hc' hyc hly ⊢
 have HN := hid hn
 have HN' := hid hn'
 have HX := hid hxr
 have HY := hid hyr
 have HXC := hid hxc
 have HYC := hid hyc
 clear hn hn' hxr hyr hxc hyc
 go_enter Tryz.func176, Tryz.ntmps176
 go_wp2_with (at_make; refine wpList_make_full _ rfl _ _ 163 rfl w.heap.size 132 i0 (.int .u32 0) 1 Tryz.underlying163 hi hz0 hz1 _ _ _ _ (n + n') rfl rfl (by omega) (by omega) (by rw [hz2]; omega) (by unfold maxLen; omega) (Nat.le_refl _) ?_)
 intro w1 hown hgrow
 have hO := Own32.of_made hown
 have hb1 : Below w.heap.size w w1 := (Below.refl _ _).grown hgrow (Nat.le_refl _) (fun k h => by cases h)
 have HO := hid hO
 have HB1 := hid hb1
 clear hown hgrow hO hb1
 generalize hg : w.heap.size = g at *
 have HG := hid hg
 clear hg
 go_wp2
 go_loopw [19] (fun i wr => ∃ k : Nat, k ≤ n ∧ i = .int .i64 k ∧ ∃ zs, Own32 wr g (n + n') zs ∧ val zs = vt xs k * val ys ∧ (∀ p, k + n' ≤ p → zs.getD p 0 = 0) ∧ Below g w wr) (fun i _ => n - (intOf i).toNat)
 case atStart => exact ⟨0, by omega, rfl, _, HO.out, by rw [val_replicate]; simp [vt, val], fun p _ => by simp only [List.getD, List.getElem?_replicate]; split <;> rfl, HB1.out⟩
 case round =>
  clear HB1 HO
  obtain ⟨k, hk, rfl, zs, hzo, hzv, hzz, hbl⟩ := hrel
  have HO := hid hzo
  have HV := hid hzv
  have HZ := hid hzz
  have HB := hid hbl
  clear hzo hzv hzz hbl
  by_cases h1 : k < n
  ·obtain ⟨b, o, rfl, hb, hcell⟩ := HXC.out (by omega)
   have hbg : b < g := by have := HG.out; omega
   have HCX := hid (hcell k h1)
   have hxk := HX.out k
   have HXK : Hid (xs.getD k 0 = xs.getD k 0) := hid rfl
   clear hcell
   obtain ⟨x, hxe⟩ : ∃ x, x = xs.getD k 0 := ⟨_, rfl⟩
   rw [← hxe] at HCX hxk
   have HXE := hid hxe
   clear hxe HXK
   obtain ⟨wo, rfl⟩ : ∃ wo : World, wo = wr := ⟨_, rfl⟩
   have hcx0 := (HB.out.cell (p := ⟨b, o + k, none⟩) hbg).trans HCX.out
   go_wp2
   clear hcx0
   go_loopw [8, 26] (fun cv jv wr => ∃ j cy : Nat, j ≤ n' ∧ jv = .int .i64 j ∧ cv = .int .u64 cy ∧ cy < 4294967296 ∧ ∃ zs, Own32 wr g (n + n') zs ∧ val zs + 4294967296 ^ (k + j) * cy = vt xs k * val ys + x * (4294967296 ^ k * vt ys j) ∧ (∀ p, k + n' ≤ p → zs.getD p 0 = 0) ∧ Below g w wr) (fun _ jv _ => n' - (intOf jv).toNat)
   case atStart => exact ⟨0, 0, by omega, rfl, rfl, by omega, zs, HO.out, by rw [HV.out, vt_zero]; simp, HZ.out, HB.out⟩
   case round =>
    clear HO HV HZ HB
    obtain ⟨j, cy, hj, rfl, rfl, hcy, zs, hzo, hzv, hzz, hbl⟩ := hrel
    have HO := hid hzo
    have HV := hid hzv
    have HZ := hid hzz
    have HB := hid hbl
    clear hzo hzv hzz hbl
    have hcx := (HB.out.cell (p := ⟨b, o + k, none⟩) hbg).trans HCX.out
    by_cases h2 : j < n'
    ·obtain ⟨b', o', rfl, hb', hcell⟩ := HYC.out (by omega)
     have hcy' := (HB.out.cell (p := ⟨b', o' + j, none⟩) (by have := HG.out; omega)).trans (hcell j h2)
     clear hcell
     have hyj := HY.out j
     obtain ⟨hcz, hfz⟩ := HO.out.2.2.2 (k + j) (by omega)
     have hzj := HO.out.2.1 (k + j)
     have HST := hid (fun t ht => mul_step (t := t) (by rw [HO.out.1]; omega) HV.out ht)
     have hmb := mul_bound hxk hyj hcy hzj
     obtain ⟨m, hme⟩ : ∃ m, m = x * ys.getD j 0 := ⟨_, rfl⟩
     rw [← hme] at HST hmb
     have hme' : ((x : Nat) : Int) * ((ys.getD j 0 : Nat) : Int) = (m : Int) := by rw [hme]; simp
     generalize ys.getD j 0 = y at *
     generalize zs.getD (k + j) 0 = z at *
     clear hme
     have hm1 := hmb.1
     have hm2 := hmb.2
     clear hmb
     go_wp2
     have hst := HST.out _ rfl
     have HST2 := hid hst
     clear hst HST hcx hcy'
     have hset := HO.out.set (show k + j < n + n' by omega) (show (cy + (m + z)) % 4294967296 < 4294967296 by omega)
     have HO2 := hid hset
     clear hset
     go_roundw
     case rel => exact ⟨j + 1, (cy + (m + z)) / 4294967296, by omega, by go_num, by go_num, by omega, zs.set (k + j) ((cy + (m + z)) % 4294967296), HO2.out, HST2.out, fun p hp => by rw [getD_set_other (by omega)]; exact HZ.out p hp, HB.out.setCell (Nat.le_refl _) _⟩
     case measure => simp [intOf]; omega
    ·obtain rfl : n' = j := by omega
     obtain ⟨hcz, hfz⟩ := HO.out.2.2.2 (k + n') (by omega)
     have hv2 := HV.out
     rw [HXE.out] at hv2
     have hrow := mul_row (by rw [HO.out.1]; omega) (HZ.out _ (Nat.le_refl _)) (by have := HN'.out; omega) hv2
     have HR := hid hrow
     have HO2 := hid (HO.out.set (show k + n' < n + n' by omega) hcy)
     rw [HZ.out _ (Nat.le_refl _)] at hcz
     clear hrow hv2 hcx
     go_wp2
     go_roundw
     case rel => exact ⟨k + 1, by omega, by go_num, zs.set (k + n') cy, HO2.out, HR.out, fun p hp => by rw [getD_set_other (by omega)]; exact HZ.out p (by omega), HB.out.setCell (Nat.le_refl _) _⟩
     case measure => simp [intOf]; omega
  ·have hV : val zs = val xs * val ys := by rw [HV.out, vt_all xs k (by have := HN.out; omega)]
   have HF := hid hV
   have hgl := HG.out
   clear hV
   go_wp2_with fail
   refine (frac_trimmed _ _ _ (HO.out.rd (Nat.le_refl _) (by unfold maxLen; omega))).mono ?_
   rintro e w' ⟨a2, c2, rfl, hv2, ho2, k2, rfl⟩
   rw [HF.out] at hv2 ho2
   rw [HF.out]
   have HV2 := hid (hv2 _ (HO.out.rd (Nat.le_refl _) (by unfold maxLen; omega)))
   have HO2 := hid ho2
   clear hv2 ho2
   go_wp2
   go_ret
   exact ⟨_, _, rfl, HV2.out, fun R hR => HO2.out R (Off.of_lt (by omega)), by rw [hgl]; exact below_drewN HB.out⟩
end Go.Proofs.YtikiimlmoalbcaaGreatDoor.Fr

namespace Go.Proofs.YtikiimlmoalbcaaGreatDoor.Fr
open Go.RowKit
theorem wrap_u32 (A : BitVec 32) : IntKind.u32.wrap (A.toNat : Int) = (A.toNat : Int) := by
  have := A.isLt
  simp only [IntKind.wrap, IntKind.bits, IntKind.signed]
  simp
  omega
theorem ofInt_toNat (A : BitVec 32) : BitVec.ofInt 32 (A.toNat : Int) = A := by
  simp
theorem bits_and32 (A B : BitVec 32) : bits .and .u32 (A.toNat : Int) (B.toNat : Int) = ((A &&& B).toNat : Int) := by
  unfold bits
  show IntKind.u32.wrap (((BitVec.ofInt 32 (A.toNat : Int)) &&& (BitVec.ofInt 32 (B.toNat : Int)) : BitVec 32).toNat : Int) = _
  rw [ofInt_toNat, ofInt_toNat, wrap_u32]
theorem bits_or32 (A B : BitVec 32) : bits .or .u32 (A.toNat : Int) (B.toNat : Int) = ((A ||| B).toNat : Int) := by
  unfold bits
  show IntKind.u32.wrap (((BitVec.ofInt 32 (A.toNat : Int)) ||| (BitVec.ofInt 32 (B.toNat : Int)) : BitVec 32).toNat : Int) = _
  rw [ofInt_toNat, ofInt_toNat, wrap_u32]
theorem bits_xor32 (A B : BitVec 32) : bits .xor .u32 (A.toNat : Int) (B.toNat : Int) = ((A ^^^ B).toNat : Int) := by
  unfold bits
  show IntKind.u32.wrap (((BitVec.ofInt 32 (A.toNat : Int)) ^^^ (BitVec.ofInt 32 (B.toNat : Int)) : BitVec 32).toNat : Int) = _
  rw [ofInt_toNat, ofInt_toNat, wrap_u32]
theorem max_u32 : IntKind.u32.max = ((BitVec.allOnes 32).toNat : Int) := by decide
theorem top32 (A : BitVec 32) : ((A.toNat : Int) / 2147483648) = if A.msb then 1 else 0 := by
  have h := A.isLt
  rw [BitVec.msb_eq_decide]
  by_cases h1 : 2 ^ (32 - 1) ≤ A.toNat
  · simp [h1]
    omega
  · simp [h1]
    omega
theorem borrow_bits (x y d : Nat) (hx : x < 4294967296) (hy : y < 4294967296) (hd : d < 4294967296) :
    bits .or .u32 (bits .and .u32 (bits .xor .u32 IntKind.u32.max (x : Int)) (y : Int)) (bits .and .u32 (bits .xor .u32 IntKind.u32.max (bits .xor .u32 (x : Int) (y : Int))) (d : Int)) / 2147483648
      = if (x < 2147483648 ∧ 2147483648 ≤ y) ∨ ((x < 2147483648 ↔ y < 2147483648) ∧ 2147483648 ≤ d) then 1 else 0 := by
  obtain ⟨X, rfl⟩ : ∃ X : BitVec 32, X.toNat = x := ⟨BitVec.ofNat 32 x, by simp; omega⟩
  obtain ⟨Y, rfl⟩ : ∃ X : BitVec 32, X.toNat = y := ⟨BitVec.ofNat 32 y, by simp; omega⟩
  obtain ⟨D, rfl⟩ : ∃ X : BitVec 32, X.toNat = d := ⟨BitVec.ofNat 32 d, by simp; omega⟩
  rw [max_u32, bits_xor32, bits_and32, bits_xor32, bits_xor32, bits_and32, bits_or32, top32]
  have hX : X.msb = decide (2147483648 ≤ X.toNat) := BitVec.msb_eq_decide X
  have hY : Y.msb = decide (2147483648 ≤ Y.toNat) := BitVec.msb_eq_decide Y
  have hD : D.msb = decide (2147483648 ≤ D.toNat) := BitVec.msb_eq_decide D
  have h1 : (BitVec.allOnes 32).msb = true := by decide
  simp only [BitVec.msb_or, BitVec.msb_and, BitVec.msb_xor, h1, hX, hY, hD]
  by_cases a : 2147483648 ≤ X.toNat <;> by_cases b : 2147483648 ≤ Y.toNat <;> by_cases c : 2147483648 ≤ D.toNat <;> simp [a, b, c] <;> omega
set_option maxHeartbeats 400000 in
theorem bits_Add32 (x y c : Nat) (hx : x < 4294967296) (hy : y < 4294967296) (hc : c ≤ 1) (w : World) :
    Calls Tryz.prog 210 #[.int .u32 (x : Int), .int .u32 (y : Int), .int .u32 (c : Int)] w (fun e w' => e = .returned (.tuple #[.int .u32 (((x + y + c) % 4294967296 : Nat) : Int), .int .u32 (((x + y + c) / 4294967296 : Nat) : Int)]) ∧ w = w') := by
  obtain ⟨s, hs⟩ : ∃ s, s = (x + y + c) % 4294967296 := ⟨_, rfl⟩
  obtain ⟨k, hk⟩ : ∃ k, k = (x + y + c) / 4294967296 := ⟨_, rfl⟩
  have e1 : ((x : Int) + y + c) % 4294967296 = (s : Int) := by omega
  have e2 : ((x : Int) + y + c) / 4294967296 = (k : Int) := by omega
  rw [← hs, ← hk]
  have E1 := hid e1
  have E2 := hid e2
  clear hs hk e1 e2
  go_enter Tryz.func210, Tryz.ntmps210
  go_wp2
  rw [E1.out, E2.out]
  go_ret2
  exact ⟨rfl, rfl⟩
set_option maxHeartbeats 400000 in
theorem bits_Sub32 (x y b : Nat) (hx : x < 4294967296) (hy : y < 4294967296) (hb : b ≤ 1) (w : World) :
    Calls Tryz.prog 211 #[.int .u32 (x : Int), .int .u32 (y : Int), .int .u32 (b : Int)] w (fun e w' => e = .returned (.tuple #[.int .u32 (((x + 4294967296 - y - b) % 4294967296 : Nat) : Int), .int .u32 ((if x < y + b then 1 else 0 : Nat) : Int)]) ∧ w = w') := by
  obtain ⟨d, hd⟩ : ∃ d, d = (x + 4294967296 - y - b) % 4294967296 := ⟨_, rfl⟩
  obtain ⟨k, hk⟩ : ∃ k : Nat, k = if x < y + b then 1 else 0 := ⟨_, rfl⟩
  have e1 : ((x : Int) - y - b) % 4294967296 = (d : Int) := by omega
  have e2 := borrow_bits x y d hx hy (by omega)
  have e3 : (if (x < 2147483648 ∧ 2147483648 ≤ y) ∨ ((x < 2147483648 ↔ y < 2147483648) ∧ 2147483648 ≤ d) then 1 else 0 : Int) = (k : Int) := by
    subst hk
    by_cases h1 : x < 2147483648 <;> by_cases h2 : y < 2147483648 <;> by_cases h3 : 2147483648 ≤ d <;> by_cases h4 : x < y + b <;> simp [h1, h2, h3, h4] <;> omega
  rw [e3] at e2
  rw [← hd, ← hk]
  have E2 := hid e2
  clear hd hk e3 e2
  go_enter Tryz.func211, Tryz.ntmps211
  go_wp2
  rw [E2.out]
  go_ret2
  exact ⟨rfl, rfl⟩
theorem frac_at (u : Value) (xs : List Nat) (i : Nat) (w : World) (hx : Rd32 w u xs) (hi : i ≤ 1099511627776) :
    Calls Tryz.prog 206 #[u, .int .i64 (i : Int)] w (fun e w' => e = .returned (.int .u32 ((xs.getD i 0 : Nat) : Int)) ∧ w = w') := by
  obtain ⟨a, c, rfl, hc, hm, hxr, hxc⟩ := hx
  unfold maxLen at hm
  obtain ⟨n, hn⟩ : ∃ n, n = xs.length := ⟨_, rfl⟩
  rw [← hn] at hc hxc ⊢
  by_cases h : i < n
  · obtain ⟨b, o, rfl, hb, hcell⟩ := hxc (by omega)
    have hk := hcell i h
    have hxi := hxr i
    clear hcell hxc hxr
    generalize xs.getD i 0 = x at *
    have hd : decide ((i : Int) < (n : Int)) = true := decide_eq_true (by omega)
    clear hn
    go_enter Tryz.func206, Tryz.ntmps206
    go_wp2
    go_ret
    exact ⟨rfl, rfl⟩
  · have h0 : xs.getD i 0 = 0 := getD_beyond (by omega)
    rw [h0]
    have hd : decide ((i : Int) < (n : Int)) = false := decide_eq_false (by omega)
    clear hxc hxr h0 hn
    go_enter Tryz.func206, Tryz.ntmps206
    go_wp2
    go_ret
    exact ⟨rfl, rfl⟩
end Go.Proofs.YtikiimlmoalbcaaGreatDoor.Fr
