/- Contract of fuzzy.Matches. -/
import Derived.Test.YtdncdlcfgljheaaGc
namespace Go.Proofs.Ytdncdlcfgljheaa
open Go.RowKit

theorem info_pair : (Try.prog.info? 33).map (fun i => (i.zero, i.size, i.bytes)) = some (some (.agg #[.int .i64 0, .int .i64 0]), 2, 16) := by kernel_rfl

/-- pairs in memory -/
def pcells (ps : List (Nat × Nat)) : List Value := ps.flatMap fun p => [.int .i64 (p.1 : Int), .int .i64 (p.2 : Int)]
theorem pcells_snoc (ps : List (Nat × Nat)) (i j : Nat) : pcells ps ++ [.int .i64 (i : Int), .int .i64 (j : Int)] = pcells (ps ++ [(i, j)]) := by simp [pcells]
theorem pcells_at (ps : List (Nat × Nat)) : ∀ i, i < ps.length → (pcells ps)[i * 2]? = some (.int .i64 ((ps.getD i (0, 0)).1 : Int)) ∧ (pcells ps)[i * 2 + 1]? = some (.int .i64 ((ps.getD i (0, 0)).2 : Int)) := by
  induction ps with
  | nil => intro i h; simp at h
  | cons p ps ih =>
    intro i h
    cases i with
    | zero => simp [pcells]
    | succ i =>
      have h' := ih i (by simpa using h)
      have e : (i + 1) * 2 = i * 2 + 2 := by omega
      simp only [pcells, List.flatMap_cons, List.cons_append, List.nil_append, e, List.getElem?_cons_succ, List.getD_cons_succ]
      exact h'
/-- pairs, in new memory -/
def GivesPr (w : World) (ps : List (Nat × Nat)) (e : Ending) (w' : World) : Prop :=
  ∃ a c, e = .returned (.slice a ps.length c) ∧ w'.ownsRow w.heap.size 33 2 (.slice a ps.length c) ps.length (pcells ps) ∧ Below w.heap.size w w'
/-- pairs that are read -/
def RdPr (w : World) (B : Nat) (v : Value) (ps : List (Nat × Nat)) : Prop :=
  Rd2 w B v ps.length (fun i => .int .i64 ((ps.getD i (0, 0)).1 : Int)) (fun i => .int .i64 ((ps.getD i (0, 0)).2 : Int))
theorem rdPr_of_own {w : World} {base : Nat} {v : Value} {ps : List (Nat × Nat)} (h : w.ownsRow base 33 2 v ps.length (pcells ps)) : RdPr w w.heap.size v ps :=
  rd2_of_owns h _ _ (fun i hi => pcells_at ps i hi)

def matchTo (E : Nat → List Nat) (k : Nat) : List (Nat × Nat) := (List.range k).flatMap fun i => (E i).map fun j => (i, j)
theorem matchTo_succ (E : Nat → List Nat) (k : Nat) : matchTo E (k + 1) = matchTo E k ++ (E k).map fun j => (k, j) := by
  unfold matchTo; rw [List.range_succ, List.flatMap_append]; simp
theorem matchTo_len (E : Nat → List Nat) (hE : ∀ i, (E i).length ≤ 1048576) : ∀ k, (matchTo E k).length ≤ k * 1048576
  | 0 => by simp [matchTo]
  | k + 1 => by
    have ih := matchTo_len E hE k
    have := hE k
    rw [matchTo_succ, List.length_append, List.length_map]
    omega
theorem take_map_snoc (l : List Nat) (k q : Nat) (h : q < l.length) : (l.take (q + 1)).map (fun j => (k, j)) = (l.take q).map (fun j => (k, j)) ++ [(k, l.getD q 0)] := by
  rw [List.take_succ_eq_append_getElem h, List.map_append, List.map_singleton, show l.getD q 0 = l[q] from by simp [List.getD, h]]

set_option maxRecDepth 100000 in
set_option maxHeartbeats 2000000 in
theorem fuzzy_Matches (K L N D : Int) (bnd : Bool) (lim : Nat) (sim : ByteArray → ByteArray → Bool) (HRU : Ruled K L N D bnd lim sim) (qv vv : Value) (qs vs : List ByteArray) (B : Nat) (w : World) (hs : Sets w B qv vv qs vs) :
    Calls Try.prog 10 #[.agg #[.int .i64 K, .int .i64 L, .int .i64 N, .int .i64 D], qv, vv] w (GivesPr w (Mt.matchesP (nearS bnd lim sim qs vs) qs.length vs.length)) := by
  obtain ⟨i0, hi, hz0, hz1, hz2⟩ := info_parts info_pair
  have HS := hid hs
  have HEQ : Hid (Mt.matchesP (nearS bnd lim sim qs vs) qs.length vs.length = matchTo (Mt.nearE (nearS bnd lim sim qs vs) vs.length) qs.length) := hid rfl
  have HNP := hid (fun W (h : Sets W B qv vv qs vs) => fuzzy_near K L N D bnd lim sim HRU qv vv qs vs B W h.q h.v h.low h.sq h.sv (by have := h.nq; omega) (by have := h.nv; omega))
  have HAS := hid (fun W (h : Sets W B qv vv qs vs) => fuzzy_asked K L N D bnd lim sim HRU qv vv qs vs B W h)
  have hnq := hs.nq
  have HEL : Hid (∀ i, (Mt.nearE (nearS bnd lim sim qs vs) vs.length i).length ≤ 1048576) := hid (fun i => by
    have h := nearE_len (nearS bnd lim sim qs vs) i vs.length
    have h2 := hs.nv
    unfold Mt.nearE; omega)
  clear hs HRU
  generalize Mt.matchesP (nearS bnd lim sim qs vs) qs.length vs.length = R at *
  generalize Mt.nearE (nearS bnd lim sim qs vs) vs.length = E at *
  generalize hn : qs.length = n at *
  clear hn
  have HML := hid (matchTo_len E HEL.out)
  have HMS := hid (fun k => matchTo_succ E k)
  go_enter Try.func10, Try.ntmps10
  go_wp2_with fail
  have hB0 : Below w.heap.size w (w.alloc (.cells #[.int .i64 K, .int .i64 L, .int .i64 N, .int .i64 D] 29)) := by repeat' (first | (with_reducible exact Below.refl _ _) | (with_reducible assumption) | (with_reducible refine below_drewN ?_) | (with_reducible refine Below.alloc ?_ ?_ _) | (with_reducible refine Below.drew ?_) | (with_reducible refine Below.setCell ?_ ?_ _) | (with_reducible refine Below.trans ?_ (Below.mono (by with_reducible assumption) ?_)) | go_size)
  with_reducible refine (HAS.out _ (HS.out.below hB0)).mono ?_
  rintro e w1 ⟨rfl, hb1⟩
  have k0 := cell_later hb1 (a := ⟨w.heap.size, 0, none⟩) (v := .int .i64 K) (by go_cell)
  have k1 := cell_later hb1 (a := ⟨w.heap.size, 1, none⟩) (v := .int .i64 L) (by go_cell)
  have k2 := cell_later hb1 (a := ⟨w.heap.size, 2, none⟩) (v := .int .i64 N) (by go_cell)
  have k3 := cell_later hb1 (a := ⟨w.heap.size, 3, none⟩) (v := .int .i64 D) (by go_cell)
  have hB1 : Below w.heap.size w w1 := by repeat' (first | (with_reducible exact Below.refl _ _) | (with_reducible assumption) | (with_reducible refine below_drewN ?_) | (with_reducible refine Below.alloc ?_ ?_ _) | (with_reducible refine Below.drew ?_) | (with_reducible refine Below.setCell ?_ ?_ _) | (with_reducible refine Below.trans ?_ (Below.mono (by with_reducible assumption) ?_)) | go_size)
  have HB1 := hid hB1
  clear hb1 hB0 hB1
  go_wp2_with fail
  with_reducible refine (HNP.out _ (HS.out.below HB1.out)).mono ?_
  rintro e w2 ⟨a2, c2, rfl, hr2, hb2⟩
  obtain ⟨f, ⟨a3, c3, e3, hc3, hm3, hx⟩, hin⟩ := hr2.rd
  obtain ⟨rfl, _, rfl⟩ := Value.slice.inj e3
  clear e3
  have HX := hid hx
  have HIN := hid hin
  have HB2 := hid (HB1.out.trans (hb2.mono HB1.out.size))
  have hz2' := HB2.out.size
  unfold maxLen at hm3
  clear hb2 hx hin k0 k1 k2 k3
  go_wp2
  go_loopg [22, 7] n (fun M i v wr => ∃ (k : Nat) (ps : List (Nat × Nat)), n - k = M ∧ k ≤ n ∧ i = .int .i64 k ∧ Hid (ps = matchTo E k) ∧ wr.ownsRow w2.heap.size 33 2 v ps.length (pcells ps) ∧ Below w2.heap.size w2 wr)
  case atStart => exact ⟨0, [], by omega, by omega, rfl, hid (by simp [matchTo]), World.ownsRow_nil _ _ _ _, Below.refl _ _⟩
  case round =>
    obtain ⟨k, ps, rfl, hk, rfl, hps, hown, hbl⟩ := hrel
    have HOWN := hid hown
    have HBL := hid hbl
    obtain ⟨a7, c7, rfl⟩ := own_slice hown
    clear hown hbl
    by_cases hlt : k < n
    · obtain ⟨b, o, rfl, hb, hcell⟩ := HX.out (by omega)
      have h0 := (HBL.out.cell (p := ⟨b, o + k, none⟩) hb).trans (hcell k hlt)
      obtain ⟨a4, c4, hfk, hc4, hm4, hx4⟩ := HIN.out k hlt
      rw [hfk] at h0
      have HX4 := hid hx4
      have hel := HEL.out k
      have HSU := hid (HMS.out k)
      have hml := HML.out k
      have hpl0 : ps.length ≤ k * 1048576 := by rw [hps.out]; exact hml
      obtain ⟨KB, hpl, hkb⟩ : ∃ KB, ps.length ≤ KB ∧ KB ≤ 1099511627776 := ⟨k * 1048576, hpl0, by omega⟩
      clear hpl0
      clear hcell hfk hx4 hml
      unfold maxLen at hm4
      generalize hL : E k = l at *
      have HL := hid hL
      clear hL
      go_wp2
      generalize hwo : wr = wo at *
      clear hwo
      go_loopg [29, 7] l.length (fun M i v wr => ∃ (q : Nat) (ps' : List (Nat × Nat)), l.length - q = M ∧ q ≤ l.length ∧ i = .int .i64 q ∧ ps'.length ≤ KB + q ∧ Hid (ps' = ps ++ (l.take q).map fun j => (k, j)) ∧ wr.ownsRow w2.heap.size 33 2 v ps'.length (pcells ps') ∧ Below w2.heap.size w2 wr)
      case atStart => exact ⟨0, ps, by omega, by omega, rfl, by omega, hid (by simp), HOWN.out, HBL.out⟩
      case round =>
        clear HOWN HBL
        obtain ⟨q, ps', rfl, hq, rfl, hpl', hps', hown, hbl⟩ := hrel
        have HBL := hid hbl
        have hbs := hbl.size
        clear hbl
        by_cases hql : q < l.length
        · obtain ⟨b4, o4, rfl, hb4, hcell4⟩ := HX4.out (by omega)
          have h4 : wr.cell? ⟨b4, o4 + q, none⟩ = some (.int .i64 ((l.getD q 0 : Nat) : Int)) := (HBL.out.cell (p := ⟨b4, o4 + q, none⟩) hb4).trans (hcell4 q hql)
          have HTS := hid (take_map_snoc l k q hql)
          clear hcell4
          generalize l.getD q 0 = j at *
          generalize hln : l.length = ln at *
          obtain ⟨a8, c8, rfl⟩ := own_slice hown
          go_wp2_with (at_builtin; refine wpList_append_own _ rfl _ _ 31 rfl w2.heap.size 33 i0 (.agg #[.int .i64 0, .int .i64 0]) 2 16 Try.underlying31 hi hz0 hz1 hz2 rfl (by decide) _ _ _ rfl (hown.alloc _) ⟨_, 0, none⟩ 1 1 [.int .i64 (k : Int), .int .i64 (j : Int)] rfl rfl (cell_two_new _ _ _ _) (by intro u hu; simp at hu; rcases hu with rfl | rfl <;> rfl) (by unfold maxLen; omega) (by omega) (by simp; omega) ?_)
          intro v' w4 hown4 hgrow _
          have HB4 := hid (push_below HBL.out (by omega) hown hgrow)
          rw [pcells_snoc] at hown4
          have HO4 := hid hown4
          clear hown hgrow hown4
          go_wp2
          go_roundg (ln - (q + 1))
          case rel => exact ⟨q + 1, ps' ++ [(k, j)], by omega, by omega, by go_num, by simp; omega, hid (by rw [HTS.out, ← List.append_assoc, ← hps'.out]), by simpa using HO4.out, HB4.out⟩
          case measure => omega
        · obtain rfl : q = l.length := by omega
          have HPS : Hid (ps' = matchTo E (k + 1)) := hid (by rw [hps'.out, List.take_length, HSU.out, ← hps.out])
          have HOWN := hid hown
          clear hps' hown
          go_wp2
          go_roundg (n - (k + 1))
          case rel => exact ⟨k + 1, ps', by omega, by omega, by go_num, HPS, HOWN.out, HBL.out⟩
          case measure => omega
    · obtain rfl : k = n := by omega
      have hR : R = ps := HEQ.out.trans hps.out.symm
      subst hR
      have HFIN : Hid (GivesPr w R (.returned (.slice a7 R.length c7)) wr) := hid ⟨a7, c7, rfl, own_base HOWN.out hz2', HB2.out.trans (HBL.out.mono hz2')⟩
      generalize R.length = rl at *
      go_wp2
      go_ret
      exact HFIN.out

end Go.Proofs.Ytdncdlcfgljheaa
