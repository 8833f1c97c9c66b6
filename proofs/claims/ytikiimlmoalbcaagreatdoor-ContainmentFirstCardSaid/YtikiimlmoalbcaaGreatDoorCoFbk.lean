/- Contracts of containment.asked, some, share, of. -/
import Derived.Test.YtikiimlmoalbcaaGreatDoorCoFbj
set_option linter.unusedVariables false
set_option linter.unusedSimpArgs false
namespace Go.Proofs.YtikiimlmoalbcaaGreatDoor
open Go.RowKit
set_option maxRecDepth 100000 in
set_option maxHeartbeats 2000000 in
theorem cont_asked {w : World} {cs : List Cv} {q : List ByteArray} {ev vv lv qv : Value} (hin : SrcIn w cs q ev vv lv qv) :
    Calls Tryz.prog 51 #[.agg #[ev, vv, lv], qv, .bool true, .bool true] w (Ret w (.int .i64 0)) := by
  have HPV := hid (fun W (hW : Below w.heap.size w W) => posting_Valid cs hin.ok ev vv lv W.heap.size W (hin.later hW).rd (Nat.le_refl _))
  have HIS := hid (fun W (hW : Below w.heap.size w W) => text_IsSet qv q W.heap.size W (hin.later hW).qrd)
  have HSET : Hid (isSet q = true) := hid hin.asc.isSet
  obtain ⟨ea, ec, rfl, -⟩ := id hin.rd.ents
  obtain ⟨va, vc, rfl, -⟩ := id hin.rd.vals
  obtain ⟨lf, ⟨la, lc, rfl, -⟩, -⟩ := id hin.rd.lists
  obtain ⟨qa, qc, rfl, -⟩ := id hin.qrd
  clear hin
  have HB0 := hid ((Below.refl w.heap.size w).alloc (Nat.le_refl _) (.cells #[.slice ea (indexOf cs).ents.length ec, .slice va (indexOf cs).vals.length vc, .slice la (indexOf cs).lists.length lc] 30))
  have hX := BoxN.new w #[.slice ea (indexOf cs).ents.length ec, .slice va (indexOf cs).vals.length vc, .slice la (indexOf cs).lists.length lc] 30
  have x0 := hX.cell 0 rfl
  have x1 := hX.cell 1 rfl
  have x2 := hX.cell 2 rfl
  clear hX
  go_enter Tryz.func51, Tryz.ntmps51
  go_wp2_with fail
  with_reducible refine (HPV.out _ HB0.out).mono ?_
  rintro e w1 ⟨rfl, hb1⟩
  have HB1 := hid (HB0.out.trans (hb1.mono HB0.out.size))
  clear hb1 x0 x1 x2
  go_wp2_with fail
  with_reducible refine (HIS.out _ HB1.out).mono ?_
  rintro e w2 hq2
  have hr := hq2.ret
  rw [HSET.out] at hr
  obtain ⟨rfl, hb2⟩ := hr
  have HB2 := hid (HB1.out.trans (hb2.mono HB1.out.size))
  clear hb2 hq2
  go_wp2
  go_ret
  exact ⟨rfl, HB2.out⟩
theorem cont_some (k : Nat) (hk : k ≤ 1024) (w : World) : Calls Tryz.prog 52 #[.int .i64 (k : Int)] w (fun e w' => e = .returned (.bool true) ∧ w' = w) := by
  have h0 : (0 : Int) ≤ (k : Int) := by omega
  have h1 : (k : Int) ≤ 1024 := by omega
  go_enter Tryz.func52, Tryz.ntmps52
  go_wp2
  go_ret
  exact ⟨rfl, rfl⟩
theorem cont_of (k n : Nat) (w : World) : Calls Tryz.prog 54 #[.int .i64 (k : Int), .int .i64 (n : Int)] w (fun e w' => e = .returned (.func (.func 111) #[] #[.pointer (some ⟨w.heap.size, 0, none⟩), .pointer (some ⟨w.heap.size + 1, 0, none⟩)]) ∧ w' = (w.alloc (.cells #[.int .i64 (k : Int)] 3)).alloc (.cells #[.int .i64 (n : Int)] 3)) := by
  go_enter Tryz.func54, Tryz.ntmps54
  go_wp2
  go_ret
  exact ⟨rfl, rfl⟩
set_option maxRecDepth 100000 in
set_option maxHeartbeats 2000000 in
theorem cont_share {w : World} {p0 q0 nc dc : Nat} {na da : Option Addr} (hrf : Fr.RdF w (.agg #[.bool false, .slice na (Fr.dig p0).length nc, .bool false, .slice da (Fr.dig q0).length dc]) false p0 q0) (hsm : Fr.Sml p0 q0) (hp : 0 < p0) (hle : p0 ≤ q0) (ho : Fr.OneAt w) :
  Calls Tryz.prog 58 #[.agg #[.bool false, .slice na (Fr.dig p0).length nc, .bool false, .slice da (Fr.dig q0).length dc]] w (Ret w (.bool true)) := by
 have HOF : Hid (∀ W, Calls Tryz.prog 92 #[.int .i64 1, .int .i64 1] W (Fr.GivesFE W false 1 1 (.int .i64 0))) := hid (fun W => by
  have h := Fr.frac_Of1 1 1 W (by omega) (by omega) (by omega)
  exact h)
 have HVAL := hid (fun W (hW : Below w.heap.size w W) => Fr.frac_Valid _ p0 q0 W (hrf.kept hW) hsm.num hsm.pos hsm.den hsm.low (ho.below hW))
 have h11 : Fr.Sml 1 1 := ⟨by omega, by omega, by omega, rfl⟩
 have HCMP := hid (fun W v (hW : Below w.heap.size w W) (hv : Fr.RdF W v false 1 1) => Fr.frac_Cmp _ v p0 q0 1 1 W (hrf.kept hW) hv hsm h11 (ho.below hW))
 have HSG : Hid (Fr.sgn (p0 * 1) (1 * q0) ≤ 0) := hid (by
  unfold Fr.sgn
  split
  ·omega
  ·split <;> omega)
 have hpl : 0 < (Fr.dig p0).length := Fr.dig_length_pos.2 hp
 have hpi : (0 : Int) < ((Fr.dig p0).length : Int) := by omega
 clear hrf hsm hp hle ho h11
 generalize Fr.sgn (p0 * 1) (1 * q0) = z at *
 have HB0 := hid ((Below.refl w.heap.size w).alloc (Nat.le_refl _) (.cells #[.bool false, .slice na (Fr.dig p0).length nc, .bool false, .slice da (Fr.dig q0).length dc] 45))
 have HX0 := hid (BoxN.new w #[.bool false, .slice na (Fr.dig p0).length nc, .bool false, .slice da (Fr.dig q0).length dc] 45)
 go_enter Tryz.func58, Tryz.ntmps58
 go_wp2_with fail
 with_reducible refine (HOF.out _).mono ?_
 rintro e w1 ⟨a1, c1, b1, d1, rfl, hN, hb1⟩
 have HB1 := hid (HB0.out.trans (hb1.mono HB0.out.size))
 have HX1 := hid (HX0.out.below hb1 HX0.out.lt)
 have HB2 := hid (HB1.out.alloc HB1.out.size (.cells #[.bool false, .slice a1 (Fr.dig 1).length c1, .bool false, .slice b1 (Fr.dig 1).length d1] 45))
 have HX2 := hid (HX1.out.alloc (.cells #[.bool false, .slice a1 (Fr.dig 1).length c1, .bool false, .slice b1 (Fr.dig 1).length d1] 45))
 have HY2 := hid (BoxN.new w1 #[.bool false, .slice a1 (Fr.dig 1).length c1, .bool false, .slice b1 (Fr.dig 1).length d1] 45)
 have HRF := hid ((hN.rd false).kept ((Below.refl w1.heap.size w1).alloc (Nat.le_refl _) (.cells #[.bool false, .slice a1 (Fr.dig 1).length c1, .bool false, .slice b1 (Fr.dig 1).length d1] 45)))
 have x0 := HX2.out.cell 0 rfl
 have x1 := HX2.out.cell 1 rfl
 have x2 := HX2.out.cell 2 rfl
 have x3 := HX2.out.cell 3 rfl
 clear hN hb1
 go_wp2_with fail
 with_reducible refine (HVAL.out _ HB2.out).mono ?_
 rintro e w3 ⟨rfl, hb3⟩
 have HB3 := hid (HB2.out.trans (hb3.mono HB2.out.size))
 have hX3 := HX2.out.below hb3 HX2.out.lt
 have hY3 := HY2.out.below hb3 HY2.out.lt
 have HRF3 := hid (HRF.out.kept hb3)
 have y0 := hX3.cell 0 rfl
 have y1 := hX3.cell 1 rfl
 have y2 := hX3.cell 2 rfl
 have y3 := hX3.cell 3 rfl
 have z0 := hY3.cell 0 rfl
 have z1 := hY3.cell 1 rfl
 have z2 := hY3.cell 2 rfl
 have z3 := hY3.cell 3 rfl
 clear hb3 x0 x1 x2 x3 hX3 hY3
 go_wp2_with fail
 with_reducible refine (HCMP.out _ _ HB3.out HRF3.out).mono ?_
 rintro e w4 ⟨rfl, hb4⟩
 have HB4 := hid (HB3.out.trans (hb4.mono HB3.out.size))
 have hz := HSG.out
 clear hb4 y0 y1 y2 y3 z0 z1 z2 z3
 go_wp2
 go_ret
 exact ⟨rfl, HB4.out⟩
def denK (kind Q n s : Nat) : Nat := Fr.denOf kind n Q s
theorem denK_sco {kind : Nat} (h1 : 1 ≤ kind) (h3 : kind ≤ 3) (Q : Nat) : Sco Q (denK kind Q) := by
  rcases (by omega : kind = 1 ∨ kind = 2 ∨ kind = 3) with rfl | rfl | rfl
  · exact query_sco Q
  · exact column_sco Q
  · exact both_sco Q
theorem denK_small {kind Q n s : Nat} (hQ : Q ≤ 1048576) (hs : s ≤ 4096) : denK kind Q n s < 4294967296 := by
  unfold denK Fr.denOf
  split
  · omega
  · split <;> omega
theorem sco_cont {w : World} {kind Q kb qb : Nat} (h1 : 1 ≤ kind) (h3 : kind ≤ 3) (hQ : Q ≤ 1048576) (hk : BoxN w kb 3 #[.int .i64 (kind : Int)]) (hq : BoxN w qb 3 #[.int .i64 (Q : Int)]) :
    ScoOk w (.func (.func 111) #[] #[.pointer (some ⟨kb, 0, none⟩), .pointer (some ⟨qb, 0, none⟩)]) Q (denK kind Q) :=
  ⟨denK_sco h1 h3 Q, fun n s _ _ _ hs => denK_small hQ hs, fun n s W hn hns hs hW => Fr.pos_score n (denK kind Q n s) kb qb s W (fun h0 => (denK_sco h1 h3 Q).pos n s h0 hn hns) (fun V hV => by
    have hk' := (hk.below hW hk.lt).below hV (hk.below hW hk.lt).lt
    have hq' := (hq.below hW hq.lt).below hV (hq.below hW hq.lt).lt
    exact Fr.of_score kind n Q s kb qb V h1 h3 hn hns (by omega) (by omega) (hk'.cell 0 rfl) (hq'.cell 0 rfl) hk'.lt hq'.lt)⟩
theorem ScoOk.later {w W : World} {fv : Value} {Q : Nat} {den : Nat → Nat → Nat} (h : ScoOk w fv Q den) (hb : Below w.heap.size w W) : ScoOk W fv Q den :=
  ⟨h.sco, h.small, fun n s V h1 h2 h3 hV => h.call n s V h1 h2 h3 (hb.trans (hV.mono hb.size))⟩
end Go.Proofs.YtikiimlmoalbcaaGreatDoor
