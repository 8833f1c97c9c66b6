/- Proved: called with any arguments of its types, CopiesPairs returns true, and its arguments read as before. Go's own tables hold what the program's text lays, which the card ties; no other conditions. -/
import Derived.Test.YthblaeleogdfpaaGreatDoorCPaaa
import Derived.Test.YthblaeleogdfpaaGreatDoorTie
import Derived.Test.YthblaeleogdfpaaGreatDoorCards
import Derived.Carry
import Derived.SizedLaws
import Derived.ProofKit
import Derived.OpenShut
import Derived.ChangeSlices
import Derived.SliceStrings
import Derived.LaidLaws
import Derived.LaidMore
import Derived.Lib.LaidU8T
import Derived.PinnedBridge
import Derived.SevenTiedAt
import Derived.Test.YthblaeleogdfpaaGreatDoorCPaab
import Derived.Test.YthblaeleogdfpaaGreatDoorCPabf
import Derived.Deep.SlicePairs
import Derived.Test.YthblaeleogdfpaaGreatDoorCPabg
set_option linter.unusedVariables false
set_option linter.unusedSimpArgs false
namespace Go.Proofs.YthblaeleogdfpaaGreatDoor
open Go.RowKit
def RdU (w : World) (B : Nat) (a : Option Addr) (n c : Nat) : Prop :=
  n ≤ c ∧ c ≤ maxLen ∧ (0 < n → ∃ b o, a = some ⟨b, o, none⟩ ∧ b < B ∧ ∀ i, i < n → ∃ x : Nat, x < 256 ∧ w.cell? ⟨b, o + i, none⟩ = some (.int .u8 (x : Int)))
end Go.Proofs.YthblaeleogdfpaaGreatDoor

namespace Go.Proofs.YthblaeleogdfpaaGreatDoor
open Go.ChangeShapes Go.WideShapes Go.ChangeAt Go.RowKit Go.Lib
set_option linter.unusedVariables false
theorem kOwn : ownKnob Tryz.prog.godebug = none := by kernel_rfl
theorem kLaid : laidOutB Tryz.prog = true := by kernel_rfl
noncomputable def laidWorld (os : Os) : World :=
  let w0 := World.doorLaid Tryz.prog 400 os
  { w0 with heap := w0.heap.modify 1 fun
      | .cells _ t frozen => .cells (Lib.firstTab.map fun z => Value.int .u8 z).toArray t frozen
      | o => o }
theorem tabs_of {l : List (String × DataW Unit)} {W : World} (h : laidMet Tryz.prog l W) (h1 : ("unicode/utf8.first", Rows.laid_unicode_utf8_first) ∈ l) (h2 : ("unicode/utf8.acceptRanges", Rows.laid_unicode_utf8_acceptRanges) ∈ l) : Tabs W := by
  have e1 : (Rows.laid_unicode_utf8_first : DataW Unit) = Lib.firstData := Go.Pinned.utf8First_eq
  have e2 : (Rows.laid_unicode_utf8_acceptRanges : DataW Unit) = Lib.acceptData := by kernel_rfl
  have r1 := Lib.laidMet.reads h h1
  have r2 := Lib.laidMet.reads h h2
  rw [e1] at r1
  rw [e2] at r2
  exact utf8Tabs_of_readsT (U8Types.of196 Tryz.layValid) ⟨by kernel_rfl, by kernel_rfl, by kernel_rfl, by kernel_rfl, by kernel_rfl, by kernel_rfl, by kernel_rfl⟩ r1 r2
end Go.Proofs.YthblaeleogdfpaaGreatDoor

namespace Go.Proofs.YthblaeleogdfpaaGreatDoor
open Go.ChangeShapes Go.RowKit Go.Lib
theorem tabIs_of_reads {P : Program} {W : World} {name : String} {k : IntKind} {zs : List Int} {g : Nat} {t e : TypeId} {n : Nat}
    (hg : P.globalNamed name = some g) (hty : (P.globals[g]?).map (·.type) = some t) (ht : P.underlying t = some (.array n e)) (he : P.underlying e = some (.int k)) (hce : P.cellsOf e = 1) (hct : P.cellsOf t = n)
    (h : VarReads P W name (tabData k zs)) : TabIs P W name k zs := by
  obtain ⟨g', t', cs, fuel, p, hg', ht', hvar, hd⟩ := h
  obtain rfl := Option.some.inj (hg.symm.trans hg')
  obtain rfl := Option.some.inj (hty.symm.trans ht')
  unfold TabIs
  rw [hvar, ← cells_of_tab ht he hce hct hd]
theorem pow_of {l : List (String × DataW Unit)} {W : World} (h : laidMet Tryz.prog l W) (h1 : ("internal/strconv.uint64pow10", Rows.laid_internal_strconv_uint64pow10) ∈ l) : Pow W := by
  have e1 : (Rows.laid_internal_strconv_uint64pow10 : DataW Unit) = tabData .u64 pow10Tab := by kernel_rfl
  have r1 := laidMet.reads h h1
  rw [e1] at r1
  exact tabIs_of_reads pow_named (t := 293) (e := 194) (n := 20) (by kernel_rfl) (by kernel_rfl) (by kernel_rfl) (by kernel_rfl) (by kernel_rfl) r1
theorem kCellsI : Tryz.prog.cellsOf 3 = 1 := by kernel_rfl
theorem rdI_of {W : World} {a : Addr} {len cap : Nat} {zs : List Int} (hl : len ≤ cap) (hm : cap ≤ maxLen) (hz : zs.length = cap) (hcell : ∀ i, i < zs.length → W.cell? (a.add i) = some (.int .i64 (zs.getD i 0))) (_hw : ∀ n ∈ zs, (Lit.int .i64 n).wf = true) :
    RdI W W.heap.size (some a) len cap := by
  refine ⟨hl, hm, fun hp => ?_⟩
  obtain ⟨b, o, spot⟩ := a
  have hspot : spot = none := by simpa [Addr.add] using World.cell?_spot (hcell 0 (by omega))
  subst hspot
  have hlt : b < W.heap.size := by
    have h := hcell 0 (by omega)
    exact World.block_lt_of_cell? W (Addr.add ⟨b, o, none⟩ 0) h
  refine ⟨b, o, rfl, hlt, fun i hi => ⟨zs.getD i 0, ?_⟩⟩
  rw [← Addr.add_lit]
  exact hcell i (by omega)
end Go.Proofs.YthblaeleogdfpaaGreatDoor

namespace Go.Proofs.YthblaeleogdfpaaGreatDoor
open Go.RowKit Go.Deep Go.ChangeShapes Go.WideShapes
theorem len_range {α : Type} (n : Nat) (f : Nat → α) : ((List.range n).map f).length = n := by rw [List.length_map, List.length_range]
theorem getD_range {α : Type} {n i : Nat} (f : Nat → α) (d : α) (h : i < n) : ((List.range n).map f).getD i d = f i := by simp [List.getD, h]
theorem list_three {α : Type} : ∀ {l : List α}, l.length = 3 → ∃ a b c, l = [a, b, c]
  | [a, b, c], _ => ⟨a, b, c, rfl⟩
theorem spot_none {W : World} {a : Addr} {v : Value} (h : W.cell? (a.add (0 * 2)) = some v) : ∃ b o, a = ⟨b, o, none⟩ ∧ b < W.heap.size := by
  rw [Nat.zero_mul] at h
  obtain ⟨b, o, spot⟩ := a
  have hs : spot = none := by simpa [Addr.add] using World.cell?_spot h
  subst hs
  exact ⟨b, o, rfl, World.block_lt_of_cell? W (Addr.add ⟨b, o, none⟩ 0) h⟩
section
variable {H : Type} {enc : TypeId × Value → H} {W : World} {base : Nat} {spare : Nat → Bool} {held : Bool}
theorem open_cells {fuel : Nat} {v : Value} {x : DataW H × List MemPlace} (h : DataW.trod enc Tryz.prog W base spare held fuel 28 [v] = some x) : ∃ cells : List Cl, RdCl W (· < W.heap.size) v cells ∧ ∀ c ∈ cells, c.text.size ≤ maxLen := by
  rcases open_slice_pairs Tryz.underlying28 Tryz.underlying104 (by kernel_rfl) rfl rfl (by kernel_rfl) (by kernel_rfl) h with ⟨hcs, -⟩ | ⟨a, len, cap, m, n, V0, V1, D0, D1, P0, P1, hcs, hb, hl, hm, hmm, hx, hcell⟩
  · obtain rfl : v = .slice none 0 0 := by simpa using hcs
    exact ⟨[], InK.nil, fun _ h => absurd h (by simp)⟩
  · obtain rfl : v = .slice (some a) len cap := by simpa using hcs
    have hlm : len ≤ m := by rw [hmm]; split <;> omega
    have each : ∀ i, i < len → ∃ c : Cl, W.cell? (a.add (i * 2)) = some (.bool c.null) ∧ W.cell? (a.add (i * 2 + 1)) = some (.string c.text) ∧ c.text.size ≤ maxLen := by
      intro i hi
      obtain ⟨h0, h1, h2, h3⟩ := hcell i (by omega)
      obtain ⟨b, e0, -⟩ := DataW.trod_bool Tryz.underlying4 h2
      obtain ⟨s, e1, -, hs⟩ := DataW.trod_string Tryz.underlying9 h3
      have e0' : V0 i = .bool b := by simpa using e0
      have e1' : V1 i = .string s := by simpa using e1
      exact ⟨⟨b, s⟩, by rw [h0, e0'], by rw [h1, e1'], hs⟩
    have each2 : ∀ i, i < len → ∃ c : Cl, (W.cell? (a.add (i * 2)) = some (.bool c.null) ∧ W.cell? (a.add (i * 2 + 1)) = some (.string c.text)) ∧ c.text.size ≤ maxLen := fun i hi => by
      obtain ⟨c, q1, q2, q3⟩ := each i hi
      exact ⟨c, ⟨q1, q2⟩, q3⟩
    haveI : Inhabited Cl := ⟨Cl.z⟩
    obtain ⟨f, hf⟩ := choose_lt each2
    refine ⟨(List.range len).map f, ⟨some a, cap, by rw [len_range], by rw [len_range]; exact hl, hm, fun hp => ?_⟩, fun c hc => ?_⟩
    · rw [len_range] at hp
      obtain ⟨b, o, rfl, hbl⟩ := spot_none (hf 0 hp).1.1
      refine ⟨b, o, rfl, hbl, fun i hi j hj => ?_⟩
      rw [len_range] at hi
      obtain ⟨⟨q1, q2⟩, -⟩ := hf i hi
      rw [Addr.add_lit] at q1 q2
      have e := getD_range f Cl.z hi
      rcases (by omega : j = 0 ∨ j = 1) with rfl | rfl
      · rw [Nat.add_zero, q1]
        unfold clF two
        rw [e]
        rfl
      · rw [Nat.add_assoc, q2]
        unfold clF two
        rw [e]
        rfl
    · obtain ⟨i, hi, rfl⟩ := List.mem_map.1 hc
      exact (hf i (List.mem_range.1 hi)).2
theorem open_cols {fuel : Nat} {v : Value} {x : DataW H × List MemPlace} (h : DataW.trod enc Tryz.prog W base spare held fuel 22 [v] = some x) : ∃ cols : List Co, RdCo W (· < W.heap.size) v cols ∧ ∀ c ∈ cols, c.name.size ≤ maxLen ∧ ∀ d ∈ c.cells, d.text.size ≤ maxLen := by
  rcases open_slice_pairs Tryz.underlying22 Tryz.underlying30 (by kernel_rfl) rfl rfl (by kernel_rfl) (by kernel_rfl) h with ⟨hcs, -⟩ | ⟨a, len, cap, m, n, V0, V1, D0, D1, P0, P1, hcs, hb, hl, hm, hmm, hx, hcell⟩
  · obtain rfl : v = .slice none 0 0 := by simpa using hcs
    exact ⟨[], ⟨fun _ => .bool false, InK.nil, fun _ h => absurd h (by simp)⟩, fun _ h => absurd h (by simp)⟩
  · obtain rfl : v = .slice (some a) len cap := by simpa using hcs
    have hlm : len ≤ m := by rw [hmm]; split <;> omega
    have each : ∀ i, i < len → ∃ c : Co, (W.cell? (a.add (i * 2)) = some (.string c.name) ∧ W.cell? (a.add (i * 2 + 1)) = some (V1 i)) ∧ RdCl W (· < W.heap.size) (V1 i) c.cells ∧ c.name.size ≤ maxLen ∧ ∀ d ∈ c.cells, d.text.size ≤ maxLen := by
      intro i hi
      obtain ⟨h0, h1, h2, h3⟩ := hcell i (by omega)
      obtain ⟨s, e0, -, hs⟩ := DataW.trod_string Tryz.underlying9 h2
      obtain ⟨cells, hcl, hsz⟩ := open_cells h3
      have e0' : V0 i = .string s := by simpa using e0
      exact ⟨⟨s, cells⟩, ⟨by rw [h0, e0'], h1⟩, hcl, hs, hsz⟩
    haveI : Inhabited Co := ⟨Co.z⟩
    obtain ⟨f, hf⟩ := choose_lt each
    refine ⟨(List.range len).map f, ⟨V1, ⟨some a, cap, by rw [len_range], by rw [len_range]; exact hl, hm, fun hp => ?_⟩, fun i hi => ?_⟩, fun c hc => ?_⟩
    · rw [len_range] at hp
      obtain ⟨b, o, rfl, hbl⟩ := spot_none (hf 0 hp).1.1
      refine ⟨b, o, rfl, hbl, fun i hi j hj => ?_⟩
      rw [len_range] at hi
      obtain ⟨⟨q1, q2⟩, -⟩ := hf i hi
      rw [Addr.add_lit] at q1 q2
      have e := getD_range f Co.z hi
      rcases (by omega : j = 0 ∨ j = 1) with rfl | rfl
      · rw [Nat.add_zero, q1]
        unfold coF two
        rw [e]
        rfl
      · rw [Nat.add_assoc, q2]
        rfl
    · rw [len_range] at hi
      rw [getD_range f Co.z hi]
      exact (hf i hi).2.1
    · obtain ⟨i, hi, rfl⟩ := List.mem_map.1 hc
      exact (hf i (List.mem_range.1 hi)).2.2
theorem open_tab {fuel : Nat} {cs : List Value} {x : DataW H × List MemPlace} (h : DataW.trod enc Tryz.prog W base spare held fuel 24 cs = some x) :
    ∃ (t : Ta) (v : Value), cs = [.int .i64 t.id, .string t.name, v] ∧ RdCo W (· < W.heap.size) v t.cols ∧ (Lit.int .i64 t.id).wf = true ∧ t.name.size ≤ maxLen ∧ ∀ c ∈ t.cols, c.name.size ≤ maxLen ∧ ∀ d ∈ c.cells, d.text.size ≤ maxLen := by
  obtain ⟨xs, k, -, -, hlen, hxl, hf⟩ := DataW.trod_struct Tryz.underlying24 h
  have h3 : Tryz.prog.cellsOf 24 = 3 := by kernel_rfl
  rw [h3] at hlen
  obtain ⟨c0, c1, c2, rfl⟩ := list_three hlen
  obtain ⟨y0, y1, y2, rfl⟩ := list_three (show xs.length = 3 from hxl)
  clear hlen hxl h
  have k1 : Tryz.prog.cellsOf 3 = 1 := by kernel_rfl
  have k2 : Tryz.prog.cellsOf 9 = 1 := by kernel_rfl
  have k3 : Tryz.prog.cellsOf 22 = 1 := by kernel_rfl
  have g0 := hf 0 _ rfl
  have g1 := hf 1 _ rfl
  have g2 := hf 2 _ rfl
  clear hf
  simp [k1, k2, k3] at g0 g1 g2
  obtain ⟨n, e0, -, hw⟩ := DataW.trod_int Tryz.underlying3 g0
  obtain ⟨s, e1, -, hs⟩ := DataW.trod_string Tryz.underlying9 g1
  obtain ⟨cols, hc, hsz⟩ := open_cols g2
  obtain rfl : c0 = .int .i64 n := (List.cons.inj e0).1
  obtain rfl : c1 = .string s := (List.cons.inj e1).1
  exact ⟨⟨n, s, cols⟩, c2, rfl, hc, hw, hs, hsz⟩
end
end Go.Proofs.YthblaeleogdfpaaGreatDoor

namespace Go.Proofs.YthblaeleogdfpaaGreatDoor
open Go.ChangeShapes Go.WideShapes Go.ChangeAt Go.RowKit Go.Lib
set_option linter.unusedVariables false
theorem door_met (os : Os) (args : Array Value) : laidMetH Tryz.prog Rows.copiesPairsRow.laid ((laidWorld os).forCall (fun _ _ => 0) ⟨#[], args, []⟩).memory :=
  laidMetH_of_parts3 (fuel := 8) (laidMet_of_run' 8 (by kernel_rfl) (by kernel_rfl)) (by kernel_rfl) (by kernel_rfl)
set_option maxRecDepth 100000 in
theorem lifted (os : Os) (started : os.Started) (H : Type) (enc : TypeId × Value → H) :
  ReturnsInHanded {} Tryz.checked os 3 .any (fun w args => (Rows.copiesPairsSpec.pre enc Tryz.prog Tryz.f3 [] false w args ∧ laidMetH Tryz.prog Rows.copiesPairsRow.laid w) ∧ sizedMet enc Tryz.prog Tryz.f3 (OpenSpec.ofChange Rows.copiesPairsSpec) false w args)
   (Rows.copiesPairsSpec.post enc Tryz.prog Tryz.f3 false true false false) := by
 refine returnsInHanded_of_change_and (C := Tryz.checked) (X := fun w _ => laidMetH Tryz.prog Rows.copiesPairsRow.laid w) (fun _ _ _ hh h => h.of_heap hh) kOwn started (by kernel_rfl) Tryz.func3
  (ChangeSpec.witness_shaped (enc := enc) (C := Tryz.checked) (os := os) (X := fun w _ => laidMetH Tryz.prog Rows.copiesPairsRow.laid w) false (laidWorld os) #[.agg #[.int .i64 0, .string ⟨#[]⟩, .slice none 0 0], .slice none 0 0] 8 rfl (World.shaped_of_RefB (by kernel_rfl) (by kernel_rfl)) (by kernel_rfl) (by kernel_rfl) (by kernel_rfl) (door_met os _)) ?_
 intro W base args ds gs before hval0 hW _ _ hL _
 have hval : ∀ (j : Nat) t v, Tryz.f3.params[j]? = some t → args[j]? = some v → Value.okWide Tryz.prog W .any base t v := hval0
 have hW' := hW
 obtain ⟨p, q, hA0, hV, rfl, _, _⟩ := hW
 have hA : DataW.TrodAll enc Tryz.prog W 0 (fun _ => true) true Tryz.f3.params.toList args.toList ds p := hA0
 rw [Tryz.params3] at hA hval
 obtain ⟨v0, vs0, d0, ds0, p0, q0, hargs, rfl, rfl, h0, r0⟩ := trodAll_cons hA
 obtain ⟨v1, vs1, d1, ds1, p1, q1, rfl, rfl, rfl, h1, r1⟩ := trodAll_cons r0
 obtain ⟨rfl, rfl, rfl⟩ := trodAll_nil r1
 obtain rfl : args = #[v0, v1] := by cases args; simp_all
 obtain ⟨rfl, rfl⟩ := trodVars_none hV
 have h0k := h0
 obtain ⟨fuel0, hf0⟩ := h0
 have h1k := h1
 obtain ⟨fuel1, hf1⟩ := h1
 clear hA0 hval0
 simp only [List.append_nil] at hW'
 have hlt0 : ∀ x ∈ p0, x.block < W.heap.size := fun x hx => by
  have := hW'.lt x (by first | exact hx | simpa using hx | simp [hx])
  simpa using this
 have hlt1 : ∀ x ∈ p1, x.block < W.heap.size := fun x hx => by
  have := hW'.lt x (by first | exact hx | simpa using hx | simp [hx])
  simpa using this
 have TABS : Tabs W := by
  have hm : laidMetH Tryz.prog Rows.copiesPairsRow.laid W := hL
  rw [MakeChecks.laidMetH_plain _ _ _ (by kernel_rfl)] at hm
  exact tabs_of hm (by simp [Rows.copiesPairsRow]) (by simp [Rows.copiesPairsRow])
 have POW : Pow W := by
  have hm : laidMetH Tryz.prog Rows.copiesPairsRow.laid W := hL
  rw [MakeChecks.laidMetH_plain _ _ _ (by kernel_rfl)] at hm
  exact pow_of hm (by simp [Rows.copiesPairsRow])
 obtain ⟨A1, L1, C1, rfl⟩ := okWide_slice Tryz.underlying25 (hval 1 25 v1 rfl rfl)
 have R1 : RdI W W.heap.size A1 L1 C1 := by
  rcases open_ints Tryz.underlying25 Tryz.underlying3 kCellsI hf1 with ⟨hcs, hx⟩ | ⟨a, len', cap', zs, hcs, _, hl, hm, hz, hx, hcell, hwz⟩
  ·simp [Value.cells] at hcs
   obtain ⟨rfl, rfl, rfl⟩ := hcs
   exact ⟨Nat.le_refl _, by simp [maxLen], fun h => absurd h (by omega)⟩
  ·simp [Value.cells] at hcs
   obtain ⟨rfl, rfl, rfl⟩ := hcs
   exact rdI_of hl hm (by simpa using hz) hcell hwz
 obtain ⟨CS0, rfl, -⟩ := okWide_struct Tryz.underlying24 (hval 0 24 v0 rfl rfl)
 obtain ⟨T0, V0, hcs0, R0, hid0, hnm0, hco0⟩ := open_tab hf0
 obtain rfl : CS0 = #[.int .i64 T0.id, .string T0.name, V0] := Array.ext' hcs0
 have SZ0 : SzT T0 := ⟨hid0, by unfold maxLen at hnm0; omega, fun c hc => ⟨by have := (hco0 c hc).1; unfold maxLen at this; omega, fun d hd => by have := (hco0 c hc).2 d hd; unfold maxLen at this; omega⟩⟩
 refine (law36_pairs T0 V0 A1 L1 C1 W SZ0 R0 R1 TABS POW).mono fun e W' ⟨he, hg⟩ => ?_
 subst he
 have hback0 : DataW.Trod enc Tryz.prog W' 0 (fun b => decide (b < W.heap.size)) true 24 (.agg #[.int .i64 T0.id, .string T0.name, V0]) d0 p0 :=
  Below.trod kLaid (by kernel_rfl) (of_decide_eq_true (by kernel_rfl)) h0k hg hlt0
 have hback1 : DataW.Trod enc Tryz.prog W' 0 (fun b => decide (b < W.heap.size)) true 25 (.slice A1 L1 C1) d1 p1 :=
  Below.trod kLaid (by kernel_rfl) (of_decide_eq_true (by kernel_rfl)) h1k hg hlt1
 exact ⟨_, rfl, _, _, _, [], _, [], hW', (trodAll_cons_mk (shut_bool Tryz.underlying4 _) trodAll_mk0), (trodAll_cons_mk hback0 (trodAll_cons_mk hback1 trodAll_mk0)), rfl, hg.frame _, fun h => by cases h⟩
theorem jf1 : (Rows.copiesPairsRow.inPlace == Tryz.pinned.checked.prog.inPlace 3) = true := by kernel_rfl
theorem jf2 : (Rows.copiesPairsRow.unfollowed == Tryz.pinned.checked.prog.unfollowed 3) = true := by kernel_rfl
theorem jf3 : (Rows.copiesPairsRow.recurses == Tryz.pinned.checked.prog.recurses 3) = true := by kernel_rfl
theorem jf4 : (Rows.copiesPairsRow.named == Tryz.pinned.checked.prog.varsNamed 3) = true := by kernel_rfl
theorem jfc : joinedFacts Tryz.pinned.checked.prog 3 Tryz.f3 Rows.copiesPairsSpec Rows.copiesPairsRow = true := by
  unfold joinedFacts
  rw [jf1, jf2, jf3, jf4]
  kernel_rfl
theorem jfw : Tryz.f3.isWrapper Tryz.pinned.checked.prog Rows.copiesPairsRow.wrapper Rows.copiesPairsRow.mainSum := by unfold Func.isWrapper; first | (rw [if_pos (by decide +kernel)]; kernel_rfl) | (rw [if_neg (by decide +kernel)]; exact ⟨rfl, rfl⟩)
theorem said : Rows.CopiesPairsSaid :=
  OpenClaim.holds_of_wide 3 Tryz.f3 rfl rfl rfl rfl rfl rfl rfl ⟨rfl, rfl, rfl, rfl, rfl⟩ rfl rfl rfl rfl rfl (by kernel_rfl) Tryz.func3 jfc
    (of_decide_eq_true (by kernel_rfl)) jfw
    (fun os started H enc _ => lifted os started H enc)
theorem proved : Rows.CopiesPairsCardSaid :=
  Claim7.holds_tied_plain_at .later [] Rows.copiesPairsCard.laidKinds true (true, Rows.copiesPairsCard.stood.harness.2) false
    said (fun _ h => by cases h) (by kernel_rfl) (fun _ h => by cases h) copiesPairs_row_tie rfl ⟨rfl, rfl⟩ (by kernel_rfl) rfl
    (fun f fn hf hfn => by
      obtain rfl : f = 3 := Option.some.inj ((show Tryz.prog.funcNamed "tablefinder/tablefinderlaw36.CopiesPairs" = some 3 by kernel_rfl).symm.trans hf) |>.symm
      obtain rfl : fn = Tryz.f3 := (Option.some.inj (Tryz.func3.symm.trans hfn)).symm
      exact ⟨by kernel_rfl, fun j t ht => by
        rw [Tryz.params3] at ht
        have h3 : t = 24 ∨ t = 25 := by
          rcases j with _ | _ | j
          · left; simpa using ht.symm
          · right; simpa using ht.symm
          · simp at ht
        rcases h3 with rfl | rfl
        · exact (show Tryz.prog.wantsStandIn 24 = false by kernel_rfl)
        · exact (show Tryz.prog.wantsStandIn 25 = false by kernel_rfl)⟩)
    (by kernel_rfl)
#print axioms proved
end Go.Proofs.YthblaeleogdfpaaGreatDoor
