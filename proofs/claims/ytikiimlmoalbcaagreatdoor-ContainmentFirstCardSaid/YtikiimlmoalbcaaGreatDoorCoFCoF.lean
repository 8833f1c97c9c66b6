/- Proved: called with any arguments of its types, ContainmentFirst returns true, and its arguments read as before. Go's own tables hold what the program's text lays, which the card ties; no other conditions. -/
import Derived.Test.YtikiimlmoalbcaaGreatDoorCoFaz
import Derived.Test.YtikiimlmoalbcaaGreatDoorCoFbo
set_option linter.unusedVariables false
set_option linter.unusedSimpArgs false
namespace Go.Proofs.YtikiimlmoalbcaaGreatDoor
open Go.ChangeShapes Go.RowKit Go.Lib
theorem one_named : Tryz.prog.globalNamed "tablefinder/fraction.one" = some 0 := by kernel_rfl
theorem one_type : (Tryz.prog.globals[(0 : Nat)]?).map (·.type) = some 163 := by kernel_rfl
theorem kCells32 : Tryz.prog.cellsOf 132 = 1 := by kernel_rfl
theorem one_var {W : World} {cs : Array Value} {v : Value} (h : W.var? Tryz.prog "tablefinder/fraction.one" = some cs) (hc : cs.toList = [v]) : W.cell? ⟨0, 0, none⟩ = some v := by
  unfold World.var? at h
  rw [one_named] at h
  simp only [Option.bind_some] at h
  split at h
  · rename_i c t fr hb
    obtain rfl := Option.some.inj h
    have e : c = #[v] := by cases c; simp_all
    subst e
    simp [World.cell?, hb]
  · cases h
theorem one_of {l : List (String × DataW Unit)} {W : World} (h : laidMet Tryz.prog l W) (h1 : ("tablefinder/fraction.one", Rows.laid_tablefinder_fraction_one) ∈ l) : Fr.OneAt W := by
  obtain ⟨g', t', cs, fuel, p, hg', ht', hvar, hd⟩ := laidMet.reads h h1
  obtain rfl := Option.some.inj (one_named.symm.trans hg')
  obtain rfl := Option.some.inj (one_type.symm.trans ht')
  rcases open_ints Tryz.underlying163 Tryz.underlying132 kCells32 hd with ⟨hcs, hx⟩ | ⟨a, len, cap, zs, hcs, -, hl, hm, hz, hx, hcell, -⟩
  · have := congrArg Prod.fst hx
    cases this
  · have hx1 := congrArg Prod.fst hx
    simp only [Rows.laid_tablefinder_fraction_one, DataW.slice.injEq] at hx1
    obtain ⟨e1, e2⟩ := hx1
    have hz' : zs.length = cap := by simpa using hz
    have l1 := congrArg List.length e1
    have l2 := congrArg List.length e2
    simp [lits] at l1 l2
    have hlen : len = 1 := by omega
    have hcap : cap = 1 := by omega
    subst hlen hcap
    obtain ⟨z, rfl⟩ : ∃ z, zs = [z] := List.length_eq_one_iff.1 hz'
    simp [lits] at e1
    subst e1
    have hc := hcell 0 (by simp)
    have hsp := World.cell?_spot hc
    obtain ⟨b, o, spot⟩ := a
    have hspot : spot = none := by simpa [Addr.add] using hsp
    subst hspot
    have hlt : b < W.heap.size := World.block_lt_of_cell? W (Addr.add ⟨b, o, none⟩ 0) hc
    have hv := one_var hvar hcs
    have hgl : (0 : Nat) < W.heap.size := World.block_lt_of_cell? W ⟨0, 0, none⟩ hv
    have hd1 : Fr.dig 1 = [1] := Fr.dig_one_digit (by omega) (by omega)
    refine ⟨_, _, hv, ?_, hgl⟩
    rw [hd1]
    refine ⟨some ⟨b, o, none⟩, 1, rfl, by decide, hm, ?_, fun _ => ⟨b, o, rfl, hlt, fun i hi => ?_⟩⟩
    · rw [← hd1]; exact Fr.digs_dig 1
    have hi0 : i = 0 := by simpa using hi
    subst hi0
    rw [← Addr.add_lit]
    exact hc
end Go.Proofs.YtikiimlmoalbcaaGreatDoor

namespace Go.Proofs.YtikiimlmoalbcaaGreatDoor
open Go.ChangeShapes Go.WideShapes Go.ChangeAt Go.RowKit Go.Lib
set_option linter.unusedVariables false
theorem door_met (os : Os) (args : Array Value) : laidMetH Tryz.prog Rows.containmentFirstRow.laid ((laidWorld os).forCall (fun _ _ => 0) ⟨#[], args, []⟩).memory :=
  laidMetH_of_parts3 (fuel := 8) (laidMet_of_run' 8 (by kernel_rfl) (by kernel_rfl)) (by kernel_rfl) (by kernel_rfl)
set_option maxRecDepth 100000 in
theorem lifted (os : Os) (started : os.Started) (H : Type) (enc : TypeId × Value → H) :
  ReturnsInHanded {} Tryz.checked os 3 .any (fun w args => (Rows.containmentFirstSpec.pre enc Tryz.prog Tryz.f3 [] false w args ∧ laidMetH Tryz.prog Rows.containmentFirstRow.laid w) ∧ sizedMet enc Tryz.prog Tryz.f3 (OpenSpec.ofChange Rows.containmentFirstSpec) false w args)
   (Rows.containmentFirstSpec.post enc Tryz.prog Tryz.f3 false true false false) := by
 refine returnsInHanded_of_change_and (C := Tryz.checked) (X := fun w _ => laidMetH Tryz.prog Rows.containmentFirstRow.laid w) (fun _ _ _ hh h => h.of_heap hh) kOwn started (by kernel_rfl) Tryz.func3
  (ChangeSpec.witness_shaped (enc := enc) (C := Tryz.checked) (os := os) (X := fun w _ => laidMetH Tryz.prog Rows.containmentFirstRow.laid w) false (laidWorld os) #[.slice none 0 0, .int .u8 0, .int .u8 0] 8 rfl (World.shaped_of_RefB (by kernel_rfl) (by kernel_rfl)) (by kernel_rfl) (by kernel_rfl) (by kernel_rfl) (door_met os _)) ?_
 intro W base args ds gs before hval0 hW _ _ hL _
 have hval : ∀ (j : Nat) t v, Tryz.f3.params[j]? = some t → args[j]? = some v → Value.okWide Tryz.prog W .any base t v := hval0
 have hW' := hW
 obtain ⟨p, q, hA0, hV, rfl, _, _⟩ := hW
 have hA : DataW.TrodAll enc Tryz.prog W 0 (fun _ => true) true Tryz.f3.params.toList args.toList ds p := hA0
 rw [Tryz.params3] at hA hval
 obtain ⟨v0, vs0, d0, ds0, p0, q0, hargs, rfl, rfl, h0, r0⟩ := trodAll_cons hA
 obtain ⟨v1, vs1, d1, ds1, p1, q1, rfl, rfl, rfl, h1, r1⟩ := trodAll_cons r0
 obtain ⟨v2, vs2, d2, ds2, p2, q2, rfl, rfl, rfl, h2, r2⟩ := trodAll_cons r1
 obtain ⟨rfl, rfl, rfl⟩ := trodAll_nil r2
 obtain rfl : args = #[v0, v1, v2] := by cases args; simp_all
 obtain ⟨rfl, rfl⟩ := trodVars_none hV
 have h0k := h0
 obtain ⟨fuel0, hf0⟩ := h0
 obtain ⟨z1, rfl, rfl, rfl, w1⟩ := open_int Tryz.underlying5 (hval 1 5 v1 rfl rfl) h1
 have bd1 := bounds_u8 w1
 obtain ⟨N1, rfl⟩ : ∃ m : Nat, z1 = (m : Int) := ⟨z1.toNat, by omega⟩
 have N1b : N1 < 256 := by omega
 obtain ⟨z2, rfl, rfl, rfl, w2⟩ := open_int Tryz.underlying5 (hval 2 5 v2 rfl rfl) h2
 have bd2 := bounds_u8 w2
 obtain ⟨N2, rfl⟩ : ∃ m : Nat, z2 = (m : Int) := ⟨z2.toNat, by omega⟩
 have N2b : N2 < 256 := by omega
 clear hA0 hval0
 simp only [List.append_nil] at hW'
 have hlt0 : ∀ x ∈ p0, x.block < W.heap.size := fun x hx => by
  have := hW'.lt x (by first | exact hx | simpa using hx | simp [hx])
  simpa using this
 have TABS : Tabs W := by
  have hm : laidMetH Tryz.prog Rows.containmentFirstRow.laid W := hL
  rw [MakeChecks.laidMetH_plain _ _ _ (by kernel_rfl)] at hm
  exact tabs_of hm (by simp [Rows.containmentFirstRow]) (by simp [Rows.containmentFirstRow])
 have ONE : Fr.OneAt W := by
  have hm : laidMetH Tryz.prog Rows.containmentFirstRow.laid W := hL
  rw [MakeChecks.laidMetH_plain _ _ _ (by kernel_rfl)] at hm
  exact one_of hm (by simp [Rows.containmentFirstRow])
 obtain ⟨A0, L0, C0, rfl⟩ := okWide_slice Tryz.underlying22 (hval 0 22 v0 rfl rfl)
 have R0 : RdU W W.heap.size A0 L0 C0 := by
  rcases open_ints Tryz.underlying22 Tryz.underlying5 kCells hf0 with ⟨hcs, hx⟩ | ⟨a, len', cap', zs, hcs, _, hl, hm, hz, hx, hcell, hwz⟩
  ·simp [Value.cells] at hcs
   obtain ⟨rfl, rfl, rfl⟩ := hcs
   exact ⟨Nat.le_refl _, by simp [maxLen], fun h => absurd h (by omega)⟩
  ·simp [Value.cells] at hcs
   obtain ⟨rfl, rfl, rfl⟩ := hcs
   exact rdU_of hl hm (by simpa using hz) hcell hwz
 refine (law20_first A0 L0 C0 N1 N2 N1b N2b W R0 TABS ONE).mono fun e W' ⟨he, hg⟩ => ?_
 subst he
 have hback0 : DataW.Trod enc Tryz.prog W' 0 (fun b => decide (b < W.heap.size)) true 22 (.slice A0 L0 C0) d0 p0 :=
  Below.trod kLaid (by kernel_rfl) (of_decide_eq_true (by kernel_rfl)) h0k hg hlt0
 exact ⟨_, rfl, _, _, _, [], _, [], hW', (trodAll_cons_mk (shut_bool Tryz.underlying4 _) trodAll_mk0), (trodAll_cons_mk hback0 (trodAll_cons_mk (shut_int Tryz.underlying5 w1) (trodAll_cons_mk (shut_int Tryz.underlying5 w2) trodAll_mk0))), rfl, hg.frame _, fun h => by cases h⟩
theorem said : Rows.ContainmentFirstSaid :=
  OpenClaim.holds_of_wide 3 Tryz.f3 rfl rfl rfl rfl rfl rfl rfl ⟨rfl, rfl, rfl, rfl, rfl⟩ rfl rfl rfl rfl rfl (by kernel_rfl) Tryz.func3 (by kernel_rfl)
    (of_decide_eq_true (by kernel_rfl)) (by unfold Func.isWrapper; first | (rw [if_pos (by decide +kernel)]; kernel_rfl) | (rw [if_neg (by decide +kernel)]; exact ⟨rfl, rfl⟩))
    (fun os started H enc _ => lifted os started H enc)
theorem proved : Rows.ContainmentFirstCardSaid :=
  Claim7.holds_tied_plain_at .later [] Rows.containmentFirstCard.laidKinds true (true, Rows.containmentFirstCard.stood.harness.2) false
    said (fun _ h => by cases h) (by kernel_rfl) (fun _ h => by cases h) containmentFirst_row_tie rfl ⟨rfl, rfl⟩ (by kernel_rfl) rfl
    (fun f fn hf hfn => by
      obtain rfl : f = 3 := Option.some.inj ((show Tryz.prog.funcNamed "tablefinder/tablefinderlaw20.ContainmentFirst" = some 3 by kernel_rfl).symm.trans hf) |>.symm
      obtain rfl : fn = Tryz.f3 := (Option.some.inj (Tryz.func3.symm.trans hfn)).symm
      exact ⟨by kernel_rfl, fun j t ht => by
        rw [Tryz.params3] at ht
        have h3 : t = 22 ∨ t = 5 := by
          rcases j with _ | _ | _ | j
          · left; simpa using ht.symm
          · right; simpa using ht.symm
          · right; simpa using ht.symm
          · simp at ht
        rcases h3 with rfl | rfl
        · exact (show Tryz.prog.wantsStandIn 22 = false by kernel_rfl)
        · exact (show Tryz.prog.wantsStandIn 5 = false by kernel_rfl)⟩)
    (by kernel_rfl)
#print axioms proved
end Go.Proofs.YtikiimlmoalbcaaGreatDoor
