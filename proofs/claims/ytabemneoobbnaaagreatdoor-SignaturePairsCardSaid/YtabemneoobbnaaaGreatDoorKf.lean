/- Contracts of signature.ranked, Ranks, Signature, Rank. -/
import Derived.Shelf.SortM.Plain
import Derived.Shelf.SortM.SortNone
import Derived.Shelf.SlicesG.CompactI
import Derived.Shelf.SlicesG.Clone
import Derived.Shelf.SlicesG.Turned
import Derived.Sort.OwnSortedInts
import Derived.Maps.OwnRows
import Derived.Test.YtabemneoobbnaaaGreatDoorShR
import Derived.Test.YtabemneoobbnaaaGreatDoorKb
import Derived.Test.YtabemneoobbnaaaGreatDoorKe
namespace Go.Proofs.YtabemneoobbnaaaGreatDoor
open Go.RowKit Go.Shelf Go.Lib

theorem fm_succ {X : List ByteArray} {q : Nat} (F : ByteArray → Option Nat) (h : q < X.length) : (X.take (q + 1)).filterMap F = (X.take q).filterMap F ++ (F (X.getD q ⟨#[]⟩)).toList := by
  rw [List.take_succ_eq_append_getElem h, List.filterMap_append]
  congr 1
  cases e : F X[q] <;> simp [List.getD, h, e]
theorem fm_len (X : List ByteArray) (F : ByteArray → Option Nat) (q : Nat) : ((X.take q).filterMap F).length ≤ q := Nat.le_trans (List.length_filterMap_le _ _) (List.length_take_le _ _)
theorem natsV_int (R : List Nat) : natsV R = (R.map fun x : Nat => (x : Int)).map (Value.int .i64) := by simp [natsV]

theorem upL_nil : upL [] = [] := by
  have := upL_len []
  exact List.eq_nil_of_length_eq_zero (by simpa using this)
theorem upL_zlen (R : List Nat) : (compact (sortZ R)).length = (upL R).length := by rw [upL_compact, List.length_map]
theorem natsV_take (R : List Nat) (n : Nat) : (((compact (sortZ R)) ++ List.replicate n 0).map (Value.int .i64)).take (upL R).length = natsV (upL R) := by
  rw [List.map_append, List.take_append_of_le_length (by rw [List.length_map, upL_zlen]; exact Nat.le_refl _), List.take_of_length_le (by rw [List.length_map, upL_zlen]; exact Nat.le_refl _), upL_compact, natsV_int]
theorem ownsRow_cutN {w : World} {base : Nat} {e : TypeId} {g cap n k : Nat} {xs : List Value} (h : w.ownsRow base e 1 (.slice (some ⟨g, 0, none⟩) n cap) n xs) (hk : k ≤ n) : w.ownsRow base e 1 (.slice (some ⟨g, 0, none⟩) k cap) k (xs.take k) := by
  obtain ⟨hl, h⟩ := h
  rcases h with ⟨h0, _⟩ | ⟨g', cap', cur, hv, hb, hg, hn, hm, hs, ht⟩
  · cases h0
  · cases hv
    exact ⟨by simp; omega, .inr ⟨g, cap, cur, rfl, hb, hg, by omega, hm, hs, by rw [← ht, List.take_take]; congr 1; omega⟩⟩

theorem lib_SortI0 (w : World) : Calls Tryz.prog 76 #[.slice none 0 0] w fun e w' => e = .returned (.tuple #[]) ∧ w' = w := AnyM.slices_Sort_int_none Tryz.sortR none 0 w
theorem lib_CompactI0 (w : World) : Calls Tryz.prog 77 #[.slice none 0 0] w fun e w' => e = .returned (.slice none 0 0) ∧ w' = w := AnyG.slices_Compact_int_empty Tryz.compactR none 0 w
theorem lib_SortI (blk cap : Nat) (zs : List Int) (w : World) (hH : Go.Sort.Holds (Value.int .i64) w blk 0 zs.toArray) (hblk : blk < w.heap.size) (hsz : zs.length < 4611686018427387904) :
    Calls Tryz.prog 76 #[.slice (some ⟨blk, 0, none⟩) zs.length cap] w fun e w' =>
      e = .returned (.tuple #[]) ∧ ∃ n os, w' = Go.Sort.grow (Go.Sort.putRow (Value.int .i64) (Go.Sort.ahead w n) blk 0 (zs.mergeSort fun x y => decide (x ≤ y)).toArray) os := AnyM.slices_Sort_int Tryz.sortR blk 0 cap zs w hH hblk hsz
theorem lib_CompactI (blk cap : Nat) (zs : List Int) (w : World) (hH : Go.Sort.Holds (Value.int .i64) w blk 0 zs.toArray) (hsz : zs.length ≤ 9223372036854775807) (hcap : zs.length ≤ cap) :
    Calls Tryz.prog 77 #[.slice (some ⟨blk, 0, none⟩) zs.length cap] w fun e w' => e = .returned (.slice (some ⟨blk, 0, none⟩) (compact zs).length cap) ∧ ∃ q, w' = Go.Sort.putRow (Value.int .i64) (Go.Sort.ahead w q) blk 0 (compact zs ++ List.replicate (zs.length - (compact zs).length) 0).toArray := AnyG.slices_Compact_int Tryz.compactR blk 0 cap zs w hH hsz hcap

set_option maxRecDepth 100000 in
set_option maxHeartbeats 2000000 in
theorem sig_ranked (b nn : Nat) (F : ByteArray → Option Nat) (v : Value) (X : List ByteArray) (B : Nat) (w : World) (hm : MapI w b nn F) (hv : InS w (· < B) v X) (hB : B ≤ w.heap.size) (hsz : ∀ s ∈ X, s.size ≤ maxLen) (hlen : X.length ≤ 1048576) :
    Calls Tryz.prog 40 #[.map (some b), v] w (GivesN w (upL (X.filterMap F))) := by
  obtain ⟨a, k, rfl, hk, hmm, hrd⟩ := hv
  obtain ⟨m0, hm0, hu0, hu1, hu2⟩ := info_parts info_int'
  have HRD := hid hrd
  have HM := hid hm
  have HSZ := hid (fun k (h : k < X.length) => hsz _ (getD_mem h ⟨#[]⟩))
  have HFM := hid (fun q (h : q < X.length) => fm_succ F h)
  have HFL := hid (fm_len X F)
  have HALL : Hid (X.filterMap F = (X.take X.length).filterMap F) := hid (by rw [List.take_length])
  clear hrd hm hsz
  generalize X.filterMap F = RR at *
  generalize hcl : X.length = L at *
  have HCL := hid hcl
  clear hcl
  unfold maxLen at hmm
  go_enter Tryz.func40, Tryz.ntmps40
  go_wp2_with fail
  go_loopg [5, 12] L (fun N v i wr => ∃ q : Nat, q + N = L ∧ i = .int .i64 (q : Int) ∧ Hid (Below w.heap.size w wr ∧ wr.ownsRow w.heap.size 3 1 v ((X.take q).filterMap F).length (natsV ((X.take q).filterMap F))))
  case atStart => exact ⟨0, by omega, rfl, hid ⟨Below.refl _ _, World.ownsRow_nil _ _ _ _⟩⟩
  case round =>
    obtain ⟨q, hq, rfl, HST⟩ := hrel
    obtain ⟨a3, c3, rfl⟩ := own_slice HST.out.2
    have hsl := HFL.out q
    by_cases hp : 0 < gk
    · obtain ⟨bb, o, rfl, hb, hcell⟩ := HRD.out (by omega)
      have hb' : bb < B := hb
      have hwz := HST.out.1.size
      have k0 : wr.cell? ⟨bb, o + q, none⟩ = some (.string (X.getD q ⟨#[]⟩)) := (HST.out.1.cell (p := ⟨bb, o + q, none⟩) (by show bb < _; omega)).trans (by have h := hcell q (by omega) 0 (by omega); simp only [Nat.mul_one, Nat.add_zero] at h; exact h)
      have hlk := (HM.out.later (w' := wr) (HST.out.1.block _ HM.out.lt)).look_ok (HSZ.out q (by omega))
      have HF1 := hid (HFM.out q (by omega))
      clear hcell
      generalize X.getD q ⟨#[]⟩ = x at *
      generalize hcur : (X.take q).filterMap F = cur at *
      clear hcur
      generalize hn5 : cur.length = n5 at *
      have HN5 := hid hn5
      clear hn5
      cases hF : F x with
      | none =>
        rw [hF] at hlk
        have HE : Hid ((X.take (q + 1)).filterMap F = cur) := hid (by rw [HF1.out, hF]; simp)
        simp only [Option.getD_none, Option.isSome_none] at hlk
        go_wp2
        go_roundg (gk - 1)
        case rel => exact ⟨q + 1, by omega, by go_num, hid ⟨HST.out.1, by rw [HE.out, HN5.out]; exact HST.out.2⟩⟩
        case measure => omega
      | some i =>
        rw [hF] at hlk
        have HE : Hid ((X.take (q + 1)).filterMap F = cur ++ [i]) := hid (by rw [HF1.out, hF]; simp)
        simp only [Option.getD_some, Option.isSome_some] at hlk
        go_wp2_with (at_builtin; refine wpList_append_form _ rfl _ _ 30 30 rfl w.heap.size 3 3 m0 (.int .i64 0) 1 8 Tryz.underlying30 Tryz.underlying30 hm0 hu0 hu1 hu2 rfl (by decide) (.slice a3 n5 c3) n5 (natsV cur) rfl (HST.out.2.alloc _) (some ⟨_, 0, none⟩) 1 1 [.int .i64 (i : Int)] rfl rfl (fun _ => ⟨_, rfl, cell_one_at _ _ (by simp)⟩) (by intro u hu; simp at hu; subst hu; rfl) (by omega) (by unfold maxLen; omega) (by omega) (by simp; omega) ?_; intro p9 cap9 w9 hown9 hg9 hat9 hlt9; have HOWN9 := hid hown9; have HG9 := hid ((World.grownBy_alloc _ _ _).trans hg9); clear hown9 hg9 hat9)
        have HB5 : Hid (Below w.heap.size w w9) := hid (HST.out.1.grown HG9.out HST.out.1.size (fun k hk => (HST.out.2.lt k hk).1))
        go_wp2
        go_roundg (gk - 1)
        case rel => exact ⟨q + 1, by omega, by go_num, hid ⟨HB5.out, by rw [HE.out, List.length_append, List.length_singleton, HN5.out]; have := HOWN9.out; rw [show natsV cur ++ [.int .i64 (i : Int)] = natsV (cur ++ [i]) by simp [natsV]] at this; exact this⟩⟩
        case measure => omega
    · obtain rfl : q = L := by omega
      have HE := hid HALL.out
      generalize (X.take q).filterMap F = cur at *
      obtain rfl : RR = cur := HE.out
      have HB := hid HST.out.1
      have HOWN := hid HST.out.2
      rcases HOWN.out.2 with ⟨e0, h0⟩ | ⟨gb, cap, arr, e1, hbase, hgb, r1, r2, r3, r4⟩
      · have hx : RR = [] := List.eq_nil_of_length_eq_zero h0
        subst hx
        simp only [List.length_nil] at e0 ⊢
        obtain ⟨rfl, -, rfl⟩ := Value.slice.inj e0
        go_wp2_with fail
        with_reducible refine (lib_SortI0 wr).mono ?_
        rintro e w' ⟨rfl, rfl⟩
        go_wp2_with fail
        with_reducible refine (lib_CompactI0 _).mono ?_
        rintro e w' ⟨rfl, rfl⟩
        go_wp2
        go_ret
        rw [upL_nil]
        exact ⟨none, 0, rfl, InK.nil, HB.out⟩
      · obtain ⟨rfl, -, rfl⟩ := Value.slice.inj e1
        have hzl : (RR.map fun x : Nat => (x : Int)).length = RR.length := by simp
        have hH : Go.Sort.Holds (Value.int .i64) wr gb 0 (RR.map fun x : Nat => (x : Int)).toArray := holds_of_blockI hgb (by rw [hzl, ← natsV_int]; simpa using r4)
        have hgl : gb < wr.heap.size := (Array.getElem?_eq_some_iff.1 hgb).1
        have cS := lib_SortI gb c3 (RR.map fun x : Nat => (x : Int)) wr hH hgl (by rw [hzl]; omega)
        rw [hzl] at cS
        go_wp2_with fail
        with_reducible refine cS.mono ?_
        clear cS
        rintro e w1 ⟨rfl, n1, os, hw1⟩
        have hown1 := ownsRow_sortedI (base := w.heap.size) (n := n1) (os := os) (ss := RR.map fun x : Nat => (x : Int)) (ts := sortZ RR) (by rw [sortZ_len, hzl]) hbase hgb (by rw [hzl]; exact r1) r2 r3
        rw [hzl] at hown1
        have hg1 : wr.grownBy w1 (some gb) := by rw [hw1]; exact grownBy_sortedI _
        have hown1 : w1.ownsRow w.heap.size 3 1 (.slice (some ⟨gb, 0, none⟩) RR.length c3) RR.length ((sortZ RR).map (Value.int .i64)) := by rw [hw1]; exact hown1
        clear hw1
        have HB1 := hid (HB.out.grown hg1 HB.out.size (fun k hk => by cases hk; exact hbase))
        rcases hown1.2 with ⟨e2, -⟩ | ⟨gb2, cap2, arr2, e2, -, hgb2, s1, s2, s3, s4⟩
        · cases e2
        obtain ⟨e3, -, rfl⟩ := Value.slice.inj e2
        obtain rfl : gb = gb2 := by simpa using e3
        have hl2 := sortZ_len RR
        have hH2 : Go.Sort.Holds (Value.int .i64) w1 gb 0 (sortZ RR).toArray := holds_of_blockI hgb2 (by rw [hl2]; simpa using s4)
        have cC := lib_CompactI gb c3 (sortZ RR) w1 hH2 (by rw [hl2]; omega) (by rw [hl2]; exact s1)
        rw [hl2, upL_zlen] at cC
        go_wp2_with fail
        with_reducible refine cC.mono ?_
        clear cC
        rintro e w2 ⟨rfl, n2, hw2⟩
        have hcl : (compact (sortZ RR)).length = (upL RR).length := upL_zlen RR
        have hul := upL_len RR
        have hown2 := ownsRow_sortedI (base := w.heap.size) (n := n2) (os := #[]) (ss := sortZ RR) (ts := compact (sortZ RR) ++ List.replicate (RR.length - (upL RR).length) 0) (by rw [List.length_append, List.length_replicate, hcl, hl2]; omega) hbase hgb2 (by rw [hl2]; exact s1) s2 s3
        have hg2 := grownBy_sortedI (w := w1) (g := gb) (n := n2) (os := #[]) (compact (sortZ RR) ++ List.replicate (RR.length - (upL RR).length) 0).toArray
        rw [Go.Sort.grow_empty] at hown2 hg2
        rw [← hw2] at hown2 hg2
        rw [hl2] at hown2
        have hown3 := ownsRow_cutN hown2 hul
        rw [natsV_take] at hown3
        clear hw2
        go_wp2
        go_ret
        exact ⟨_, _, rfl, (inN_of_own hown3).more fun b hb => hown3.lt b hb, HB1.out.grown hg2 HB1.out.size (fun k hk => by cases hk; exact hbase)⟩

theorem wpList_append_zeroR {P : Program} {w : World} {ops : Array Oper} {rest : List Oper} {o : Oper} {a : Act} {Q : Exit → Act → World → Prop} (hgd : o.guard = none) (s x : Operand) (t tx : TypeId)
    (ho : o.op = .call { callee := .builtin .append, args := #[s, x], argTypes := #[t, tx] }) (e e' : TypeId) (i : TypeInfo) (ht : P.underlying t = some (.slice e)) (hk : P.underlying tx = some (.slice e')) (hi : P.info? e = some i)
    (base : Option Addr) (n cap : Nat) (hs : a.eval s = .slice base n cap) (hn : n ≤ cap) (ao : Option Addr) (m c : Nat) (hm : m = 0) (hx : a.eval x = .slice ao m c)
    (h : wpList P ops Q rest (a.put o.dst (.slice base n cap)) w) : wpList P ops Q (o :: rest) a w := by
  subst hm
  refine wpList_plain hgd fun _ hK => ?_
  have hr : (Builtin.append_ #[t, tx] o.type #[.slice base n cap, .slice ao 0 c]).run P w = .ok (.slice base n cap) w := by
    rw [append_types w ht hk]; exact run_append_empty w ht hi base n cap c hn ao
  unfold Oper.wp execOp
  simp only [ho, resolve, invoke, builtin, Sem.run_bind, Sem.run_pure, Result.andThen_ok, List.map_toArray, List.map_cons, List.map_nil, hs, hx, hr]
  exact hK _ _ h

set_option maxRecDepth 100000 in
set_option maxHeartbeats 1000000 in
theorem lib_CloneR (v : Value) (xs : List Nat) (B : Nat) (w : World) (hv : InN w (· < B) v xs) (hm : xs.length ≤ 1099511627776) :
    Calls Tryz.prog 42 #[v] w (GivesN w xs) := by
  obtain ⟨a, c, rfl, hc, hm', hr⟩ := hv
  by_cases hp : 0 < xs.length
  · obtain ⟨b, o, rfl, hb, hcell⟩ := hr hp
    have hcon := AnyG.slices_Clone_int Tryz.cloneR b o xs.length c (xs.map fun x : Nat => (x : Int)) w (by simp) (by omega) (fun j hj => by
      rw [List.length_map] at hj
      have h1 := hcell j hj 0 (by omega)
      simp only [Nat.mul_one, Nat.add_zero] at h1
      rw [h1]
      simp [natF, List.getD, hj])
    refine hcon.mono ?_
    rintro e w' ⟨v', rfl, hown, -, hbl⟩
    have e1 : ((xs.map fun x : Nat => (x : Int)).take xs.length).map (Value.int .i64) = natsV xs := by
      rw [List.take_of_length_le (by simp)]
      simp [natsV]
    rw [e1] at hown
    obtain ⟨g, cap, rfl, -⟩ := hown.form hp
    exact ⟨some ⟨g, 0, none⟩, cap, rfl, (inN_of_own hown).more fun b hb => hown.lt b hb, hbl⟩
  · have hx : xs = [] := List.eq_nil_of_length_eq_zero (by omega)
    subst hx
    simp only [List.length_nil]
    clear hr hp
    obtain ⟨i0, hi, hz0, hz1, hz2⟩ := info_parts info_int'
    go_enter Tryz.func42, Tryz.ntmps42
    cases a with
    | none =>
      have hnil : ∀ W : World, (binOp .eql 30 (.slice none 0 c) (.slice none 0 0)).run Tryz.prog W = .ok (.bool true) W := fun W => Lib.run_eql_slice_nil W _ 3 none 0 c 0 0 Tryz.underlying30
      go_wp2
      go_ret
      exact ⟨none, 0, rfl, InK.nil, Below.refl _ _⟩
    | some p =>
      have hnil : ∀ W : World, (binOp .eql 30 (.slice (some p) 0 c) (.slice none 0 0)).run Tryz.prog W = .ok (.bool false) W := fun W => Lib.run_eql_slice_nil W _ 3 (some p) 0 c 0 0 Tryz.underlying30
      go_wp2_with (at_builtin; refine wpList_append_zeroR rfl _ _ 30 30 rfl 3 3 i0 Tryz.underlying30 Tryz.underlying30 hi _ 0 0 rfl (Nat.le_refl _) (some p) 0 c rfl rfl ?_)
      go_ret
      exact ⟨some ⟨w.heap.size, 0, none⟩, 0, rfl, ⟨_, _, rfl, Nat.le_refl _, by simp [maxLen], fun h => absurd h (by simp)⟩, (Below.refl _ _).alloc (Nat.le_refl _) _⟩

theorem lib_IndexR (v : Value) (xs : List ByteArray) (s : ByteArray) (B : Nat) (w : World) (hv : InS w (· < B) v xs) (hp : 0 < xs.length) :
    Calls Tryz.prog 55 #[v, .string s] w fun e w' => e = .returned (.int .i64 (Lib.idxOfS xs s)) ∧ w' = w := by
  obtain ⟨a, c, rfl, hc, hm', hr⟩ := hv
  obtain ⟨b, o, rfl, hb, hcell⟩ := hr hp
  unfold maxLen at hm'
  have hcon := AnyG.slices_Index_string Tryz.indexR b o xs.length c xs s w (Nat.le_refl _) (by omega) (fun j hj => by
    have h1 := hcell j hj 0 (by omega)
    simp only [Nat.mul_one, Nat.add_zero] at h1
    exact h1)
  rw [List.take_of_length_le (Nat.le_refl _)] at hcon
  exact hcon

set_option maxHeartbeats 1000000 in
theorem sig_Ranks (v vx : Value) (O X : List ByteArray) (B : Nat) (w : World) (hv : InS w (· < B) v O) (hx : InS w (· < B) vx X) (hB : B ≤ w.heap.size) (hso : ∀ s ∈ O, s.size ≤ maxLen) (hsx : ∀ s ∈ X, s.size ≤ maxLen) (hlo : O.length ≤ 1048576) (hlx : X.length ≤ 1048576) :
    Calls Tryz.prog 13 #[v, vx] w (GivesN w (rankL O X)) := by
  have HRS := hid (InS.rds hv fun b h => h)
  have HX := hid hx
  obtain ⟨a, c, rfl, -⟩ := hv
  obtain ⟨xa, xc, rfl, -⟩ := hx
  have HPL := hid (callsIn_wide.1 (places_in Fence.wide 5 trivial trivial trivial rfl (by omega) a c B O hso (by omega) w hB HRS.out))
  have HRK := hid (fun nn W (hm : MapI W w.heap.size nn (idxF O)) (hW : Below w.heap.size w W) => sig_ranked w.heap.size nn (idxF O) (.slice xa X.length xc) X B W hm (InK.keep HX.out fun p (hp : p.block < B) => hW.cell (p := p) (by omega)) (by have := hW.size; omega) hsx hlx)
  generalize O.length = on at *
  generalize X.length = xn at *
  go_enter Tryz.func13, Tryz.ntmps13
  go_wp2_with fail
  with_reducible refine HPL.out.mono ?_
  rintro e w1 ⟨rfl, hm1, hb1⟩
  have HB1 := hid hb1
  go_wp2_with fail
  with_reducible refine (HRK.out _ _ hm1 hb1).mono ?_
  rintro e w2 ⟨ra, rc, rfl, hr2, hb2⟩
  have HR2 := hid hr2
  have HB2 := hid (HB1.out.trans (hb2.mono HB1.out.size))
  clear hm1 hb1 hr2 hb2
  go_wp2
  go_ret
  exact ⟨ra, rc, rfl, HR2.out.more fun b hb => ⟨Nat.le_trans HB1.out.size hb.1, hb.2⟩, HB2.out⟩

set_option maxHeartbeats 1000000 in
theorem sig_Signature (v : Value) (R : List Nat) (n : Nat) (B : Nat) (w : World) (hv : InN w (· < B) v R) (hB : B ≤ w.heap.size) (hl : R.length ≤ 1048576) (hn : n ≤ 1048576) :
    Calls Tryz.prog 14 #[v, .int .i64 (n : Int)] w (GivesN w (R.take (prefL R.length n))) := by
  have hpl : prefL R.length n ≤ R.length := by unfold prefL; split <;> omega
  have HTL : Hid ((R.take (prefL R.length n)).length = prefL R.length n) := hid (by rw [List.length_take]; omega)
  have HCL : Hid (∀ a c, v = .slice a R.length c → ∀ W, w = W → Calls Tryz.prog 42 #[.slice a (prefL R.length n) c] W (GivesN W (R.take (prefL R.length n)))) := hid (fun a c e W hW => by
    subst hW
    have h := lib_CloneR (.slice a (prefL R.length n) c) (R.take (prefL R.length n)) B w (by
      obtain ⟨a', c', e', h1, h2, h3⟩ := hv
      rw [e] at e'
      obtain ⟨rfl, -, rfl⟩ := Value.slice.inj e'
      refine ⟨a, c, by rw [HTL.out], by rw [HTL.out]; omega, h2, fun hp => ?_⟩
      rw [HTL.out] at hp
      obtain ⟨b, o, e1, hb, hcell⟩ := h3 (by omega)
      refine ⟨b, o, e1, hb, fun i hi j hj => (hcell i (by rw [HTL.out] at hi; omega) j hj).trans ?_⟩
      rw [HTL.out] at hi
      simp [natF, List.getD, List.getElem?_take, hi]) (by rw [HTL.out]; omega)
    exact h)
  obtain ⟨a, c, rfl, hc, hm, -⟩ := hv
  have HPF := hid (fun W => sig_Prefix R.length n W (by omega) (by omega))
  have hcl := HCL.out a c rfl
  have HC := hid hcl
  clear hcl HCL
  unfold maxLen at hm
  generalize prefL R.length n = p at *
  generalize R.length = rn at *
  go_enter Tryz.func14, Tryz.ntmps14
  go_wp2_with fail
  with_reducible refine (HPF.out _).mono ?_
  rintro e w1 ⟨rfl, rfl⟩
  go_wp2_with fail
  with_reducible refine (HC.out _ rfl).mono ?_
  rintro e w2 ⟨ra, rc, rfl, hr2, hb2⟩
  have HR2 := hid hr2
  have HB2 := hid hb2
  clear hr2 hb2
  rw [HTL.out] at HR2 ⊢
  go_wp2
  go_ret
  exact ⟨ra, rc, by rw [HTL.out]; rfl, by rw [HTL.out]; exact HR2.out, HB2.out⟩

end Go.Proofs.YtabemneoobbnaaaGreatDoor
