/- Contracts of table.Refs, find, column and Get. Contract of table.Get at a reference that is there. -/
import Derived.Test.YtabemneoobbnaaaGreatDoorQb
import Derived.Test.YtabemneoobbnaaaGreatDoorNf
import Derived.Test.YtabemneoobbnaaaGreatDoorNh
import Derived.Test.YtabemneoobbnaaaGreatDoorNi
namespace Go.Proofs.YtabemneoobbnaaaGreatDoor
open Go.RowKit

set_option maxRecDepth 100000 in
set_option maxHeartbeats 2000000 in
theorem table_Refs (v : Value) (ts : List Ta) (B : Nat) (w : World) (h : ListV ts) (hv : RdTa w (· < B) v ts) (hB : B ≤ w.heap.size) :
    Calls Tryz.prog 46 #[v] w (GivesRf w (refsL ts)) := by
  obtain ⟨hl, hok, -⟩ := h
  obtain ⟨tv, htv, hco⟩ := hv
  obtain ⟨a, k, rfl, hk, hm, hrd⟩ := htv
  obtain ⟨i0, hi, hz0, hz1, hz2⟩ := info_parts info_ref
  have HRD := hid hrd
  have HCO := hid hco
  have HTK := hid (fun q h => @refs_take ts q h)
  have HALL : Hid (refsL ts = refsL (ts.take ts.length)) := hid (by rw [List.take_length])
  have HC64 := hid (fun q (h : q < ts.length) => (hok _ (getD_mem h Ta.z)).2.2.2.1)
  clear hrd hco hok
  generalize refsL ts = R at *
  generalize hxl : ts.length = L at *
  have HXL := hid hxl
  clear hxl
  unfold maxLen at hm
  go_enter Tryz.func46, Tryz.ntmps46
  go_wp2_with fail
  go_loopg [3, 9] L (fun N v i wr => ∃ q : Nat, q + N = L ∧ i = .int .i64 (q : Int) ∧ (refsL (ts.take q)).length ≤ 64 * q ∧ Hid (Below w.heap.size w wr ∧ wr.ownsRow w.heap.size 47 2 v (refsL (ts.take q)).length (flatK 2 (refsL (ts.take q)).length (rfF (refsL (ts.take q))))))
  case atStart => exact ⟨0, by omega, rfl, by simp [refsL], hid ⟨Below.refl _ _, World.ownsRow_nil _ _ _ _⟩⟩
  case round =>
    obtain ⟨q, hq, rfl, hlen, HST⟩ := hrel
    obtain ⟨a3, c3, rfl⟩ := own_slice HST.out.2
    by_cases hp : 0 < gk
    · obtain ⟨b, o, rfl, hb, hcell⟩ := HRD.out (by omega)
      have hbw : b < w.heap.size := by omega
      have hwz := HST.out.1.size
      have k0 : wr.cell? ⟨b, o + q * 3, none⟩ = some (.int .i64 (ts.getD q Ta.z).id) := (HST.out.1.cell (p := ⟨b, o + q * 3, none⟩) hbw).trans (hcell q (by omega) 0 (by omega))
      have k1 : wr.cell? ⟨b, o + q * 3 + 1, none⟩ = some (.string (ts.getD q Ta.z).name) := (HST.out.1.cell (p := ⟨b, o + q * 3 + 1, none⟩) hbw).trans (hcell q (by omega) 1 (by omega))
      have k2 : wr.cell? ⟨b, o + q * 3 + 2, none⟩ = some (tv q) := (HST.out.1.cell (p := ⟨b, o + q * 3 + 2, none⟩) hbw).trans (hcell q (by omega) 2 (by omega))
      obtain ⟨ca, ck, hcq⟩ : ∃ ca ck, tv q = .slice ca (ts.getD q Ta.z).cols.length ck := by
        obtain ⟨cv, ⟨ca, ck, e, -⟩, -⟩ := HCO.out q (by omega)
        exact ⟨ca, ck, e⟩
      have hm64 := HC64.out q (by omega)
      have HNX := hid (HTK.out q (by omega))
      rw [hcq] at k2
      unfold refs1 at HNX
      generalize refsL (ts.take q) = acc at *
      clear hcell hcq
      generalize ts.getD q Ta.z = t at *
      obtain ⟨id, nm, xs⟩ := t
      generalize hxsl : xs.length = m at *
      have HXS := hid hxsl
      clear hxsl
      simp only at k0 k1 k2 hm64
      have HB9 : Hid (Below w.heap.size w (wr.alloc (.cells #[.int .i64 id, .string nm, .slice ca m ck] 84))) := hid (by have := HST.out.1; repeat' (first | (with_reducible exact Below.refl _ _) | (with_reducible assumption) | (with_reducible refine below_drewN ?_) | (with_reducible refine Below.alloc ?_ ?_ _) | (with_reducible refine Below.drew ?_) | (with_reducible refine Below.setCell ?_ ?_ _) | (with_reducible refine Below.trans ?_ (Below.mono (by with_reducible assumption) ?_)) | go_size))
      have HO9 := hid (HST.out.2.alloc (.cells #[.int .i64 id, .string nm, .slice ca m ck] 84))
      have HBX := hid (BoxN.new wr #[.int .i64 id, .string nm, .slice ca m ck] 84)
      have hz9 : (wr.alloc (.cells #[.int .i64 id, .string nm, .slice ca m ck] 84)).heap.size = wr.heap.size + 1 := by simp
      generalize hLA : Code.loop _ = LA
      go_wp2_with fail
      clear k0 k1 k2
      subst hLA
      generalize wr.alloc (.cells #[.int .i64 id, .string nm, .slice ca m ck] 84) = W9 at *
      obtain ⟨wo, rfl⟩ : ∃ wo, wo = wr := ⟨wr, rfl⟩
      obtain ⟨ko, rfl⟩ : ∃ ko, ko = gk := ⟨gk, rfl⟩
      go_loopg [3, 16] m (fun N v i W => ∃ j : Nat, j + N = m ∧ i = .int .i64 (j : Int) ∧ v.ownBlock ≠ some wo.heap.size ∧ Hid (Below w.heap.size w W ∧ W.ownsRow w.heap.size 47 2 v (refsJ acc id j).length (flatK 2 (refsJ acc id j).length (rfF (refsJ acc id j))) ∧ BoxN W wo.heap.size 84 #[.int .i64 id, .string nm, .slice ca m ck]))
      case atStart => exact ⟨0, by omega, rfl, (fun e => by have := (HST.out.2.lt _ e).2; omega), hid ⟨HB9.out, by simpa [refsJ] using HO9.out, HBX.out⟩⟩
      case round =>
        obtain ⟨j, hj, rfl, hne, HSJ⟩ := hrel
        have hjl := refsJ_len acc id j
        have HJS := hid (refsJ_succ acc id j)
        obtain ⟨a4, c4, rfl⟩ := own_slice HSJ.out.2.1
        have hbz := HSJ.out.2.2.lt
        by_cases hpj : 0 < gk
        · have s0 := HSJ.out.2.2.cell 0 rfl
          have HOW := hid HSJ.out.2.1
          have hwzj := HSJ.out.1.size
          generalize refsJ acc id j = cur at *
          generalize hcl : cur.length = n at *
          have HCL := hid hcl
          have hjl2 : n ≤ acc.length + j := by omega
          clear hcl hjl
          go_wp2_with (at_builtin; refine wpList_append_form _ rfl _ _ 44 44 rfl w.heap.size 47 47 i0 (.agg #[.int .i64 0, .int .i64 0]) 2 16 Tryz.underlying44 Tryz.underlying44 hi hz0 hz1 hz2 rfl (by decide) (.slice a4 n c4) n (flatK 2 n (rfF cur)) rfl (HOW.out.alloc _) (some ⟨_, 0, none⟩) 1 1 [.int .i64 id, .int .i64 (j : Int)] rfl rfl (fun _ => ⟨_, rfl, cell_two_at _ _ _ (by simp)⟩) (by intro u hu; simp at hu; rcases hu with rfl | rfl <;> rfl) (by omega) (by unfold maxLen; omega) (by omega) (by simp; omega) ?_; intro p7 cap7 w7 hown7 hg7 hat7 hlt7; have HG7 := hid hg7; have HOWN7 := hid hown7; have HAT7 := hid hat7; clear hown7 hg7 hat7)
          have HB7 : Hid (Below w.heap.size w w7) := hid ((HSJ.out.1.alloc hwzj _).grown HG7.out (by simp; omega) (fun k hk => (HOW.out.lt k hk).1))
          have HX7 := hid ((HSJ.out.2.2.alloc (.cells #[.int .i64 id, .int .i64 (j : Int)] 47)).grown HG7.out hne.symm)
          have HN7 : (Value.slice (some ⟨p7, 0, none⟩) (n + 1) cap7).ownBlock ≠ some wo.heap.size := fun e => by
            have e1 : p7 = wo.heap.size := by simpa [Value.ownBlock] using e
            rcases HAT7.out with h1 | h1
            · exact hne (by rw [h1, e1])
            · simp at h1; omega
          have HO7 := HOWN7.out
          rw [← HCL.out, rf_push cur (id, j), ← HJS.out] at HO7
          have HO8 := hid HO7
          clear HO7 HOWN7 HG7 HAT7 s0
          go_wp2
          go_roundg (gk - 1)
          case rel => exact ⟨j + 1, by omega, by go_num, HN7, hid ⟨HB7.out, by have := HO8.out; rw [HJS.out, List.length_append, List.length_singleton, HCL.out] at this ⊢; exact this, HX7.out⟩⟩
          case measure => omega
        · obtain rfl : j = m := by omega
          have HEQ : Hid (refsL (ts.take (q + 1)) = refsJ acc id j) := hid (by rw [HNX.out]; rfl)
          have HJL := hid hjl
          clear hjl
          generalize refsJ acc id j = cur at *
          go_wp2_with fail
          go_roundg (ko - 1)
          case rel => exact ⟨q + 1, by omega, by go_num, by have := HJL.out; rw [HEQ.out]; omega, hid ⟨HSJ.out.1, by rw [HEQ.out]; exact HSJ.out.2.1⟩⟩
          case measure => omega
    · obtain rfl : q = L := by omega
      have HFIN : Hid (GivesRf w R (.returned (.slice a3 (refsL (ts.take q)).length c3)) wr) := hid (by
        rw [HALL.out]
        exact ⟨a3, c3, rfl, (inK_of_owns HST.out.2).more fun b hb => HST.out.2.lt b hb, HST.out.1⟩)
      go_wp2
      go_ret
      exact HFIN.out

/-! ### Clones of cells -/
theorem src_of_inK {k : Nat} {w : World} {S : Nat → Prop} {b o n c : Nat} {f : Nat → Nat → Value} (hk : 0 < k) (h : ∀ i, i < n → ∀ j, j < k → w.cell? ⟨b, o + i * k + j, none⟩ = some (f i j)) :
    ∀ j u, (flatK k n f)[j]? = some u → w.cell? ((⟨b, o, none⟩ : Addr).add j) = some u := by
  intro j u hu
  have hj : j < n * k := by have := (List.getElem?_eq_some_iff.1 hu).1; rwa [flatK_len] at this
  have h1 : j / k < n := (Nat.div_lt_iff_lt_mul hk).2 hj
  have h2 : j % k < k := Nat.mod_lt _ hk
  have h3 : j / k * k + j % k = j := by rw [Nat.mul_comm]; exact Nat.div_add_mod j k
  have h4 := flatK_at (f := f) h1 h2
  rw [h3, hu] at h4
  rw [Addr.add_lit, h4]
  have h5 := h _ h1 _ h2
  rw [Nat.add_assoc, h3] at h5
  exact h5
theorem cl_one (cs : List Cl) : ∀ u ∈ flatK 2 cs.length (clF cs), u.oneCell' = true := by
  intro u hu
  obtain ⟨i, hi, hu⟩ := List.mem_flatMap.1 hu
  obtain ⟨j, hj, rfl⟩ := List.mem_map.1 hu
  have := List.mem_range.1 hj
  rcases (show j = 0 ∨ j = 1 by omega) with rfl | rfl <;> rfl
/-- cells in new memory -/
def NewCl (w : World) (cs : List Cl) (e : Ending) (w' : World) : Prop := ∃ a c, e = .returned (.slice a cs.length c) ∧ RdCl w' (News w w') (.slice a cs.length c) cs ∧ Below w.heap.size w w'

set_option maxRecDepth 100000 in
set_option maxHeartbeats 1000000 in
theorem clone_cells (v : Value) (cs : List Cl) (B : Nat) (w : World) (hv : RdCl w (· < B) v cs) (hB : B ≤ w.heap.size) (hl : cs.length ≤ 1048576) :
    Calls Tryz.prog 110 #[v] w (NewCl w cs) := by
  obtain ⟨a, c, rfl, hc, hm, hr⟩ := hv
  obtain ⟨i0, hi, hz0, hz1, hz2⟩ := info_parts info_cell
  have HR := hid hr
  have HO := hid (cl_one cs)
  have HFL := hid (flatK_len 2 cs.length (clF cs))
  have HNP : Hid (cs.length = 0 → cs = []) := hid (fun h => List.eq_nil_of_length_eq_zero h)
  clear hr
  generalize hn : cs.length = n at *
  have HN := hid hn
  clear hn
  unfold maxLen at hm
  rcases a with _ | ⟨b0, o0, s0⟩
  · have h0 : n = 0 := by
      rcases Nat.eq_zero_or_pos n with h | h
      · exact h
      · obtain ⟨b, o, e, -⟩ := HR.out h
        cases e
    subst h0
    have hnil : ∀ W : World, (binOp .eql 50 (.slice none 0 c) (.slice none 0 0)).run Tryz.prog W = .ok (.bool true) W := fun W => Lib.run_eql_slice_nil W _ 81 none 0 c 0 0 Tryz.underlying50
    have HE := hid (HNP.out rfl)
    clear HNP
    go_enter Tryz.func110, Tryz.ntmps110
    go_wp2
    go_ret
    obtain rfl := HE.out
    exact ⟨none, 0, rfl, RdCl.nil, Below.refl _ _⟩
  · have hnil : ∀ W : World, (binOp .eql 50 (.slice (some ⟨b0, o0, s0⟩) n c) (.slice none 0 0)).run Tryz.prog W = .ok (.bool false) W := fun W => Lib.run_eql_slice_nil W _ 81 (some ⟨b0, o0, s0⟩) n c 0 0 Tryz.underlying50
    have HOW : Hid ((w.alloc (.cells #[] 81)).ownsRow w.heap.size 81 2 (.slice (some ⟨w.heap.size, 0, none⟩) 0 0) 0 []) := hid ⟨rfl, .inr ⟨_, 0, #[], rfl, Nat.le_refl _, heap_alloc_new w _, Nat.le_refl _, by simp [maxLen], rfl, rfl⟩⟩
    rcases Nat.eq_zero_or_pos n with h0 | hp
    · subst h0
      have HE := hid (HNP.out rfl)
      clear HNP
      go_enter Tryz.func110, Tryz.ntmps110
      go_wp2_with (at_builtin; refine wpList_append_zero rfl (.tmp 5) (.tmp 6) 50 50 rfl 81 81 i0 Tryz.underlying50 Tryz.underlying50 hi _ _ _ rfl (Nat.le_refl _) _ 0 c rfl rfl ?_)
      go_wp2
      go_ret
      obtain rfl := HE.out
      refine ⟨some ⟨w.heap.size, 0, none⟩, 0, rfl, ?_, (Below.refl _ _).alloc (Nat.le_refl _) _⟩
      exact ⟨_, _, rfl, Nat.le_refl _, by simp [maxLen], fun h => absurd h (by simp)⟩
    · obtain ⟨b, o, e, hb, hcell⟩ := HR.out hp
      cases e
      have hb' : b0 < w.heap.size := by have : b0 < B := hb; omega
      have HSRC := hid (src_of_inK (k := 2) (w := w) (S := fun _ => True) (c := 0) (by decide) hcell)
      have HSRC2 := hid (fun j u hu => (World.cell?_alloc_lt w (.cells #[] 81) (Addr.add ⟨b0, o0, none⟩ j) (by rw [Addr.add_lit]; exact hb')).trans (HSRC.out j u hu))
      clear hcell
      go_enter Tryz.func110, Tryz.ntmps110
      go_wp2_with (at_builtin; refine wpList_append_form _ rfl (.tmp 5) (.tmp 6) 50 50 rfl w.heap.size 81 81 i0 (.agg #[.bool false, .string ⟨#[]⟩]) 2 24 Tryz.underlying50 Tryz.underlying50 hi hz0 hz1 hz2 rfl (by decide) _ 0 [] rfl HOW.out _ n c (flatK 2 n (clF cs)) rfl HFL.out (fun _ => ⟨_, rfl, HSRC2.out⟩) HO.out (by omega) (by unfold maxLen; omega) (by omega) (by simp) ?_; intro p7 cap7 w7 hown7 hg7 hat7 hlt7; have HOWN7 := hid hown7; have HG7 := hid hg7; clear hown7 hg7 hat7)
      have HRD7 : Hid (RdCl w7 (News w w7) (.slice (some ⟨p7, 0, none⟩) n cap7) cs) := hid (by
        have h := HOWN7.out
        rw [List.nil_append, Nat.zero_add] at h
        have h2 := h
        rw [← HN.out] at h2 ⊢
        exact (inK_of_owns h2).more fun b hb => h2.lt b hb)
      have HB7 : Hid (Below w.heap.size w w7) := hid (((Below.refl w.heap.size w).alloc (Nat.le_refl _) (.cells #[] 81)).trans ⟨HG7.out.os, HG7.out.tape, HG7.out.output, HG7.out.size, fun k hk => HG7.out.block k (by simp; omega) (fun e => by have e2 : some k = some w.heap.size := e; injection e2 with e2; omega)⟩)
      clear HOWN7 HG7
      go_wp2
      go_ret
      exact ⟨some ⟨p7, 0, none⟩, cap7, (by rw [HN.out]; rfl), by rw [HN.out]; exact HRD7.out, HB7.out⟩

/-! ### A column in memory of its own -/
def ColP (w : World) (x : Co) (e : Ending) (w' : World) : Prop := ∃ u, e = .returned (.agg #[.string x.name, u]) ∧ RdCl w' (News w w') u x.cells ∧ Below w.heap.size w w'

set_option maxRecDepth 100000 in
set_option maxHeartbeats 1000000 in
theorem table_column (x : Co) (v : Value) (B : Nat) (w : World) (hv : RdCl w (· < B) v x.cells) (hB : B ≤ w.heap.size) (hl : x.cells.length ≤ 1048576) :
    Calls Tryz.prog 84 #[.agg #[.string x.name, v]] w (ColP w x) := by
  have HCL := hid (fun W (hW : Below w.heap.size w W) => clone_cells v x.cells B W (hv.keep fun p (hp : p.block < B) => hW.cell (p := p) (by omega)) (by have := hW.size; omega) hl)
  obtain ⟨a, c, rfl, -⟩ := hv
  obtain ⟨nm, cs⟩ := x
  simp only at HCL hl ⊢
  generalize hn : cs.length = n at *
  have HN := hid hn
  clear hn
  have HB2 : Hid (Below w.heap.size w ((w.alloc (.cells #[.string nm, .slice a n c] 52)).alloc (.cells #[.string ⟨#[]⟩, .slice none 0 0] 52))) := hid (by have := Below.refl w.heap.size w; repeat' (first | (with_reducible exact Below.refl _ _) | (with_reducible assumption) | (with_reducible refine below_drewN ?_) | (with_reducible refine Below.alloc ?_ ?_ _) | (with_reducible refine Below.drew ?_) | (with_reducible refine Below.setCell ?_ ?_ _) | (with_reducible refine Below.trans ?_ (Below.mono (by with_reducible assumption) ?_)) | go_size))
  have HX := hid ((BoxN.new w #[.string nm, .slice a n c] 52).alloc (.cells #[.string ⟨#[]⟩, .slice none 0 0] 52))
  have HO := hid (BoxN.new (w.alloc (.cells #[.string nm, .slice a n c] 52)) #[.string ⟨#[]⟩, .slice none 0 0] 52)
  rw [World.size_alloc] at HO
  go_enter Tryz.func84, Tryz.ntmps84
  go_upto_region 1 with fail
  generalize (w.alloc (.cells #[.string nm, .slice a n c] 52)).alloc (.cells #[.string ⟨#[]⟩, .slice none 0 0] 52) = W2 at *
  have x0 := HX.out.cell 0 rfl
  have x1 := HX.out.cell 1 rfl
  have hz2 := HB2.out.size
  have hoz := HO.out.lt
  go_region_held3 (fun w' => w'.cell? ⟨w.heap.size, 0, none⟩ = some (.string nm) ∧ w'.cell? ⟨w.heap.size, 1, none⟩ = some (.slice a n c))
    (first | exact ⟨s0, s1⟩ | exact ⟨v0, v1⟩ | go_keep)
    ((go_at_call 110; go_must (((with_reducible refine (HCL.out _ (by have h1 := HB2.out; repeat' (first | (with_reducible exact Below.refl _ _) | (with_reducible assumption) | (with_reducible refine below_drewN ?_) | (with_reducible refine Below.alloc ?_ ?_ _) | (with_reducible refine Below.drew ?_) | (with_reducible refine Below.setCell ?_ ?_ _) | (with_reducible refine Below.trans ?_ (Below.mono (by with_reducible assumption) ?_)) | go_size))).mono ?_); rintro e w3 ⟨a3, c3, rfl, hrd3, hb3⟩; have HB3 : Hid (Below W2.heap.size W2 w3) := hid (by have h1 := Below.refl W2.heap.size W2; repeat' (first | (with_reducible exact Below.refl _ _) | (with_reducible assumption) | (with_reducible refine below_drewN ?_) | (with_reducible refine Below.alloc ?_ ?_ _) | (with_reducible refine Below.drew ?_) | (with_reducible refine Below.setCell ?_ ?_ _) | (with_reducible refine Below.trans ?_ (Below.mono (by with_reducible assumption) ?_)) | go_size)); have hx3 := HX.out.below HB3.out HX.out.lt; have ho3 := HO.out.below HB3.out HO.out.lt; have s0 := hx3.cell 0 rfl; have s1 := hx3.cell 1 rfl; have o0 := ho3.cell 0 rfl; have o1 := ho3.cell 1 rfl; have o3 := ho3.frozen 0; have o4 := ho3.frozen 1; have hx4 := ((hx3.other (p := ⟨w.heap.size + 1, 0, none⟩) (by show w.heap.size + 1 ≠ w.heap.size; omega) (.string nm)).other (p := ⟨w.heap.size + 1, 1, none⟩) (by show w.heap.size + 1 ≠ w.heap.size; omega) (.slice a3 cs.length c3)); have v0 := hx4.cell 0 rfl; have v1 := hx4.cell 1 rfl; have HO3 := hid ho3; have HRD3 := hid hrd3; clear hx3 ho3 hb3 hrd3 hx4))))
  all_goals
    clear x0 x1 s0 s1 v0 v1 o0 o1 o3 o4
    have hq := (HO3.out.set 0 (.string nm)).set 1 (.slice a3 cs.length c3)
    have q0 := hq.cell 0 rfl
    have q1 := hq.cell 1 rfl
    clear hq
    go_wp2_with fail
    refine bodyPost_ret (v := .agg #[.string nm, .slice a3 cs.length c3]) (by simp [results, Tryz.results84, go_sem, q0, q1]; done) rfl ⟨_, rfl, ?_, ?_⟩
    · have h3 := HB3.out.size
      refine (HRD3.out.keep fun p hp => ?_).more fun b hb => ?_
      · have hp1 : W2.heap.size ≤ p.block := And.left hp
        have hne : p.block ≠ w.heap.size + 1 := by omega
        rw [World.cell?_setCell_other _ _ _ _ (by intro e; subst e; exact hne rfl), World.cell?_setCell_other _ _ _ _ (by intro e; subst e; exact hne rfl)]
      · have hp1 : W2.heap.size ≤ b := And.left hb
        have hp2 : b < w3.heap.size := And.right hb
        exact ⟨by omega, by simp; omega⟩
    · have h0 : w.heap.size ≤ w.heap.size + 1 := by omega
      have hb3 : Below w.heap.size w w3 := HB2.out.trans (HB3.out.mono hz2)
      exact (hb3.setCell h0 _).setCell h0 _

/-! ### The table of an identifier -/
theorem find_one (t : Ta) (v : Value) (z : Int) (rb B : Nat) (w : World) (hv : ∃ a n c, v = .slice a n c) (h1 : w.cell? ⟨rb, 0, none⟩ = some (.int .i64 z)) :
    Calls Tryz.prog 109 #[.agg #[.int .i64 t.id, .string t.name, v], .pointer (some ⟨rb, 0, none⟩)] w (Ret w (.bool (decide (t.id = z)))) := by
  obtain ⟨a, n, c, rfl⟩ := hv
  obtain ⟨id, nm, xs⟩ := t
  have hrl := World.block_lt_of_cell? _ _ h1
  have n1 : (w.alloc (.cells #[.int .i64 id, .string nm, .slice a n c] 84)).cell? ⟨rb, 0, none⟩ = some (.int .i64 z) := (World.cell?_alloc_lt _ _ _ hrl).trans h1
  have HB := hid ((Below.refl w.heap.size w).alloc (Nat.le_refl _) (.cells #[.int .i64 id, .string nm, .slice a n c] 84))
  simp only
  go_enter Tryz.func109, Tryz.ntmps109
  go_wp2
  go_ret
  exact ⟨ret_bool (by by_cases h : id = z <;> simp [h]), HB.out⟩

set_option maxRecDepth 100000 in
set_option maxHeartbeats 1000000 in
theorem index_tables (v : Value) (ts : List Ta) (B i rb : Nat) (w : World) (hi : i < ts.length) (hu : ∀ j, j < i → (ts.getD j Ta.z).id ≠ (ts.getD i Ta.z).id) (hl : ts.length ≤ 1048576) (hv : RdTa w (· < B) v ts) (hB : B ≤ w.heap.size)
    (h1 : w.cell? ⟨rb, 0, none⟩ = some (.int .i64 (ts.getD i Ta.z).id)) :
    Calls Tryz.prog 108 #[v, .func (.func 109) #[] #[.pointer (some ⟨rb, 0, none⟩)]] w (Ret w (.int .i64 (i : Int))) := by
  obtain ⟨tv, ⟨a, k, rfl, hk, hm, hrd⟩, hco⟩ := hv
  have hrl := World.block_lt_of_cell? _ _ h1
  have HRD := hid hrd
  have HCF : Hid (∀ q, q < ts.length → ∃ ca ck, tv q = .slice ca (ts.getD q Ta.z).cols.length ck) := hid (fun q hq => by
    obtain ⟨cv, ⟨ca, ck, e, -⟩, -⟩ := hco q hq
    exact ⟨ca, ck, e⟩)
  have HF := hid (fun q (hq : q < ts.length) W (hW : Below w.heap.size w W) => find_one (ts.getD q Ta.z) (tv q) (ts.getD i Ta.z).id rb B W (by obtain ⟨ca, ck, e⟩ := HCF.out q hq; exact ⟨_, _, _, e⟩) ((hW.cell (p := ⟨rb, 0, none⟩) hrl).trans h1))
  have HNE := hid (fun q (hq : q < i) => decide_eq_false (hu q hq))
  clear hrd hco h1 hu
  generalize hxl : ts.length = L at *
  have HXL := hid hxl
  clear hxl
  unfold maxLen at hm
  go_enter Tryz.func108, Tryz.ntmps108
  go_wp2_with fail
  go_loopg [8] (i + 1) (fun N u wr => ∃ q : Nat, q + N = i + 1 ∧ 1 ≤ N ∧ u = .int .i64 (q : Int) ∧ Hid (Below w.heap.size w wr))
  case atStart => exact ⟨0, by omega, by omega, rfl, hid (Below.refl _ _)⟩
  case round =>
    obtain ⟨q, hq, hN, rfl, HB⟩ := hrel
    obtain ⟨b, o, rfl, hb, hcell⟩ := HRD.out (by omega)
    have hbw : b < w.heap.size := by have : b < B := hb; omega
    have hwz := HB.out.size
    obtain ⟨ca, ck, hcq⟩ := HCF.out q (by omega)
    have k0 : wr.cell? ⟨b, o + q * 3, none⟩ = some (.int .i64 (ts.getD q Ta.z).id) := (HB.out.cell (p := ⟨b, o + q * 3, none⟩) hbw).trans (hcell q (by omega) 0 (by omega))
    have k1 : wr.cell? ⟨b, o + q * 3 + 1, none⟩ = some (.string (ts.getD q Ta.z).name) := (HB.out.cell (p := ⟨b, o + q * 3 + 1, none⟩) hbw).trans (hcell q (by omega) 1 (by omega))
    have k2 : wr.cell? ⟨b, o + q * 3 + 2, none⟩ = some (tv q) := (HB.out.cell (p := ⟨b, o + q * 3 + 2, none⟩) hbw).trans (hcell q (by omega) 2 (by omega))
    have HFQ := hid (HF.out q (by omega) wr HB.out)
    have hqL : (q : Int) < (L : Int) := by omega
    rw [hcq] at k2 HFQ
    clear hcell hcq
    by_cases hqi : q = i
    · rw [hqi] at HFQ k0 k1 k2 ⊢
      rw [decide_eq_true (rfl : (ts.getD i Ta.z).id = (ts.getD i Ta.z).id)] at HFQ
      have hqL2 : (i : Int) < (L : Int) := by omega
      clear hqi hq hN hqL
      generalize ts.getD i Ta.z = t at *
      obtain ⟨id, nm, xs⟩ := t
      simp only at k0 k1 k2 HFQ
      generalize xs.length = l at *
      go_wp2_with fail
      with_reducible refine HFQ.out.mono ?_
      rintro e w6 ⟨rfl, hb6⟩
      have HB6 := hid (HB.out.trans (hb6.mono hwz))
      clear hb6 k0 k1 k2
      go_wp2
      go_ret
      exact ⟨rfl, HB6.out⟩
    · have hlt : q < i := by omega
      rw [HNE.out q hlt] at HFQ
      generalize ts.getD q Ta.z = t at *
      obtain ⟨id, nm, xs⟩ := t
      simp only at k0 k1 k2 HFQ
      generalize xs.length = l at *
      go_wp2_with fail
      with_reducible refine HFQ.out.mono ?_
      rintro e w6 ⟨rfl, hb6⟩
      have HB6 := hid (HB.out.trans (hb6.mono hwz))
      clear hb6 k0 k1 k2
      go_wp2_with fail
      go_roundg (gk - 1)
      case rel => exact ⟨q + 1, by omega, by omega, by go_num, hid HB6.out⟩
      case measure => omega

theorem table_find (v : Value) (ts : List Ta) (B i : Nat) (w : World) (hi : i < ts.length) (hu : ∀ j, j < i → (ts.getD j Ta.z).id ≠ (ts.getD i Ta.z).id) (hl : ts.length ≤ 1048576) (hv : RdTa w (· < B) v ts) (hB : B ≤ w.heap.size) :
    Calls Tryz.prog 83 #[v, .int .i64 (ts.getD i Ta.z).id] w (Ret w (.int .i64 (i : Int))) := by
  have HI := hid (index_tables v ts B i w.heap.size (w.alloc (.cells #[.int .i64 (ts.getD i Ta.z).id] 3)) hi hu hl (hv.keep fun p (hp : p.block < B) => World.cell?_alloc_lt _ _ _ (by omega)) (by simp; omega) (by simp))
  have HB0 := hid ((Below.refl w.heap.size w).alloc (Nat.le_refl _) (.cells #[.int .i64 (ts.getD i Ta.z).id] 3))
  obtain ⟨a, c, rfl⟩ : ∃ a c, v = .slice a ts.length c := by
    obtain ⟨tv, ⟨a, c, e, -⟩, -⟩ := hv
    exact ⟨a, c, e⟩
  clear hv hu
  generalize (ts.getD i Ta.z).id = z at *
  generalize ts.length = L at *
  go_enter Tryz.func83, Tryz.ntmps83
  go_wp2_with fail
  with_reducible refine HI.out.mono ?_
  rintro e w1 ⟨rfl, hb1⟩
  have HB1 := hid (HB0.out.trans (hb1.mono (by simp)))
  clear hb1
  go_wp2
  go_ret
  exact ⟨rfl, HB1.out⟩

end Go.Proofs.YtabemneoobbnaaaGreatDoor

namespace Go.Proofs.YtabemneoobbnaaaGreatDoor
open Go.RowKit

def GetN (w : World) (x : Co) (e : Ending) (w' : World) : Prop := ∃ u, e = .returned (.tuple #[.agg #[.string x.name, u], .bool true]) ∧ RdCl w' (News w w') u x.cells ∧ Below w.heap.size w w'

set_option maxRecDepth 100000 in
set_option maxHeartbeats 2000000 in
theorem table_Get (v : Value) (ts : List Ta) (B i k : Nat) (w : World) (hi : i < ts.length) (hu : ∀ j, j < i → (ts.getD j Ta.z).id ≠ (ts.getD i Ta.z).id) (hl : ts.length ≤ 1048576) (hk : k < (ts.getD i Ta.z).cols.length)
    (hv : RdTa w (· < B) v ts) (hB : B ≤ w.heap.size) (hcl : ((ts.getD i Ta.z).cols.getD k Co.z).cells.length ≤ 1048576) :
    Calls Tryz.prog 47 #[v, .agg #[.int .i64 (ts.getD i Ta.z).id, .int .i64 (k : Int)]] w (GetN w ((ts.getD i Ta.z).cols.getD k Co.z)) := by
  have HFI := hid (fun W (hW : Below w.heap.size w W) => table_find v ts B i W hi hu hl (hv.keep fun p (hp : p.block < B) => hW.cell (p := p) (by omega)) (by have := hW.size; omega))
  obtain ⟨tv, ⟨a, c, rfl, hc, hm, hrd⟩, hco⟩ := hv
  obtain ⟨b, o, rfl, hb, hcell⟩ := hrd (by omega)
  have hb' : b < B := hb
  have hbw : b < w.heap.size := by omega
  obtain ⟨cv, ⟨ca, cc, hcv, hcc, hcm, hcr⟩, hcl2⟩ := hco i hi
  obtain ⟨b2, o2, rfl, hb2, hcell2⟩ := hcr (by omega)
  have hb2' : b2 < B := hb2
  have hbw2 : b2 < w.heap.size := by omega
  have HCL := hid (hcl2 k hk)
  obtain ⟨xa, xc, hxv, -⟩ := hcl2 k hk
  have k2 : w.cell? ⟨b, o + i * 3 + 2, none⟩ = some (tv i) := hcell i hi 2 (by omega)
  have m0 : w.cell? ⟨b2, o2 + k * 2, none⟩ = some (.string ((ts.getD i Ta.z).cols.getD k Co.z).name) := hcell2 k hk 0 (by omega)
  have m1 : w.cell? ⟨b2, o2 + k * 2 + 1, none⟩ = some (cv k) := hcell2 k hk 1 (by omega)
  rw [hcv] at k2
  rw [hxv] at m1 HCL
  have HCOL := hid (fun W (hW : Below w.heap.size w W) => table_column ((ts.getD i Ta.z).cols.getD k Co.z) _ B W (HCL.out.keep fun p (hp : p.block < B) => hW.cell (p := p) (by omega)) (by have := hW.size; omega) hcl)
  clear hcell hcell2 hcr hrd hco hcl2 hcv hxv HCL hu
  generalize (ts.getD i Ta.z).cols.getD k Co.z = x at *
  obtain ⟨xn, xcl⟩ := x
  simp only at m0 m1 hcl HCOL ⊢
  generalize hxcl : xcl.length = xl at *
  have HXCL := hid hxcl
  clear hxcl
  generalize (ts.getD i Ta.z).cols.length = cl at *
  generalize (ts.getD i Ta.z).id = id at *
  generalize ts.length = L at *
  unfold maxLen at hm hcm
  have HB2 : Hid (Below w.heap.size w ((w.alloc (.cells #[.int .i64 id, .int .i64 (k : Int)] 47)).alloc (.cells #[.string ⟨#[]⟩, .slice none 0 0] 52))) := hid (by have := Below.refl w.heap.size w; repeat' (first | (with_reducible exact Below.refl _ _) | (with_reducible assumption) | (with_reducible refine below_drewN ?_) | (with_reducible refine Below.alloc ?_ ?_ _) | (with_reducible refine Below.drew ?_) | (with_reducible refine Below.setCell ?_ ?_ _) | (with_reducible refine Below.trans ?_ (Below.mono (by with_reducible assumption) ?_)) | go_size))
  have HR := hid ((BoxN.new w #[.int .i64 id, .int .i64 (k : Int)] 47).alloc (.cells #[.string ⟨#[]⟩, .slice none 0 0] 52))
  have HO := hid (BoxN.new (w.alloc (.cells #[.int .i64 id, .int .i64 (k : Int)] 47)) #[.string ⟨#[]⟩, .slice none 0 0] 52)
  rw [World.size_alloc] at HO
  have r0 := HR.out.cell 0 rfl
  go_enter Tryz.func47, Tryz.ntmps47
  go_wp2_with fail
  with_reducible refine (HFI.out _ HB2.out).mono ?_
  generalize (w.alloc (.cells #[.int .i64 id, .int .i64 (k : Int)] 47)).alloc (.cells #[.string ⟨#[]⟩, .slice none 0 0] 52) = W2 at *
  rintro e w3 ⟨rfl, hb3⟩
  have HB3 := hid (HB2.out.trans (hb3.mono HB2.out.size))
  have HR3 := hid (HR.out.below hb3 HR.out.lt)
  have HO3 := hid (HO.out.below hb3 HO.out.lt)
  have k2' := (HB3.out.cell (p := ⟨b, o + i * 3 + 2, none⟩) hbw).trans k2
  have m0' := (HB3.out.cell (p := ⟨b2, o2 + k * 2, none⟩) hbw2).trans m0
  have m1' := (HB3.out.cell (p := ⟨b2, o2 + k * 2 + 1, none⟩) hbw2).trans m1
  clear hb3 r0 k2 m0 m1 HFI HB2 HR HO
  have r0 := HR3.out.cell 0 rfl
  have r1 := HR3.out.cell 1 rfl
  have hd0 : decide ((i : Int) < 0) = false := decide_eq_false (by omega)
  have hd1 : decide ((k : Int) < 0) = false := decide_eq_false (by omega)
  have hd2 : decide ((cl : Int) ≤ (k : Int)) = false := decide_eq_false (by omega)
  have hd3 : decide (cl ≤ k) = false := decide_eq_false (by omega)
  have hiL : (i : Int) < (L : Int) := by omega
  have hkC : (k : Int) < (cl : Int) := by omega
  go_wp2_with fail
  go_quiet (fail)
  have HB4 := hid (below_drewN (n := nq) HB3.out)
  have HR4 := hid (HR3.out.drewN nq)
  have HO4 := hid (HO3.out.drewN nq)
  have k2 : (w3.drewN nq).cell? ⟨b, o + i * 3 + 2, none⟩ = some (.slice (some ⟨b2, o2, none⟩) cl cc) := k2'
  have m0 : (w3.drewN nq).cell? ⟨b2, o2 + k * 2, none⟩ = some (.string xn) := m0'
  have m1 : (w3.drewN nq).cell? ⟨b2, o2 + k * 2 + 1, none⟩ = some (.slice xa xl xc) := m1'
  clear k2' m0' m1' r0 r1 HB3 HR3 HO3
  generalize w3.drewN nq = w4 at *
  have r0 := HR4.out.cell 0 rfl
  have r1 := HR4.out.cell 1 rfl
  have hz4 := HB4.out.size
  have hoz := HO4.out.lt
  go_wp2_with fail
  go_region_held3 (fun w' => w'.cell? ⟨w.heap.size, 1, none⟩ = some (.int .i64 (k : Int)) ∧ w'.cell? ⟨b, o + i * 3 + 2, none⟩ = some (.slice (some ⟨b2, o2, none⟩) cl cc) ∧ w'.cell? ⟨b2, o2 + k * 2, none⟩ = some (.string xn) ∧ w'.cell? ⟨b2, o2 + k * 2 + 1, none⟩ = some (.slice xa xl xc))
    (first | exact ⟨s0, s1, s2, s3⟩ | exact ⟨v0, v1, v2, v3⟩ | go_keep)
    ((go_at_call 84; go_must (((with_reducible refine (HCOL.out _ (by have h1 := HB4.out; repeat' (first | (with_reducible exact Below.refl _ _) | (with_reducible assumption) | (with_reducible refine below_drewN ?_) | (with_reducible refine Below.alloc ?_ ?_ _) | (with_reducible refine Below.drew ?_) | (with_reducible refine Below.setCell ?_ ?_ _) | (with_reducible refine Below.trans ?_ (Below.mono (by with_reducible assumption) ?_)) | go_size))).mono ?_); rintro e w5 ⟨u, rfl, hrd5, hb5⟩; have hrd6 := hrd5; obtain ⟨ua, uc, rfl, -⟩ := hrd6; have HB5 : Hid (Below w4.heap.size w4 w5) := hid (by have h1 := Below.refl w4.heap.size w4; repeat' (first | (with_reducible exact Below.refl _ _) | (with_reducible assumption) | (with_reducible refine below_drewN ?_) | (with_reducible refine Below.alloc ?_ ?_ _) | (with_reducible refine Below.drew ?_) | (with_reducible refine Below.setCell ?_ ?_ _) | (with_reducible refine Below.trans ?_ (Below.mono (by with_reducible assumption) ?_)) | go_size)); have hr5 := HR4.out.below HB5.out HR4.out.lt; have ho5 := HO4.out.below HB5.out HO4.out.lt; have s0 := hr5.cell 1 rfl; have s1 := cell_later HB5.out k2; have s2 := cell_later HB5.out m0; have s3 := cell_later HB5.out m1; have o0 := ho5.cell 0 rfl; have o1 := ho5.cell 1 rfl; have o3 := ho5.frozen 0; have o4 := ho5.frozen 1; have HNE := hid (fun (p : Addr) (h : p.block < w.heap.size + 1) => (World.cell?_setCell_other (w5.setCell ⟨w.heap.size + 1, 0, none⟩ (.string xn)) ⟨w.heap.size + 1, 1, none⟩ p (.slice ua xcl.length uc) (by intro e; subst e; simp at h)).trans (World.cell?_setCell_other w5 ⟨w.heap.size + 1, 0, none⟩ p (.string xn) (by intro e; subst e; simp at h))); have v0 := (HNE.out ⟨w.heap.size, 1, none⟩ (by simp)).trans s0; have v1 := (HNE.out ⟨b, o + i * 3 + 2, none⟩ (by simp; omega)).trans s1; have v2 := (HNE.out ⟨b2, o2 + k * 2, none⟩ (by simp; omega)).trans s2; have v3 := (HNE.out ⟨b2, o2 + k * 2 + 1, none⟩ (by simp; omega)).trans s3; have HO5 := hid ho5; have HRD5 := hid hrd5; clear hr5 ho5 hb5 hrd5))))
  all_goals
    clear k2 m0 m1 r0 r1 s0 s1 s2 s3 v0 v1 v2 v3 o0 o1 o3 o4
    have hq := (HO5.out.set 0 (.string xn)).set 1 (.slice ua xcl.length uc)
    have q0 := hq.cell 0 rfl
    have q1 := hq.cell 1 rfl
    clear hq
    go_wp2_with fail
    refine bodyPost_ret (v := .tuple #[.agg #[.string xn, .slice ua xcl.length uc], .bool true]) (by simp [results, Tryz.results47, go_sem, q0, q1]; done) rfl ⟨_, rfl, ?_, ?_⟩
    · have h3 := HB5.out.size
      refine (HRD5.out.keep fun p hp => ?_).more fun b hb => ?_
      · have hp1 : w4.heap.size ≤ p.block := And.left hp
        have hne : p.block ≠ w.heap.size + 1 := by omega
        rw [World.cell?_setCell_other _ _ _ _ (by intro e; subst e; exact hne rfl), World.cell?_setCell_other _ _ _ _ (by intro e; subst e; exact hne rfl)]
      · have hp1 : w4.heap.size ≤ b := And.left hb
        have hp2 : b < w5.heap.size := And.right hb
        exact ⟨by omega, by simp; omega⟩
    · have h0 : w.heap.size ≤ w.heap.size + 1 := by omega
      have hb3 : Below w.heap.size w w5 := HB4.out.trans (HB5.out.mono hz4)
      exact (hb3.setCell h0 _).setCell h0 _

end Go.Proofs.YtabemneoobbnaaaGreatDoor
