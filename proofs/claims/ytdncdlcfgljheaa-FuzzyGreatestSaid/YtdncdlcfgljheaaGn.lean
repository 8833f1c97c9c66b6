/- Contract of fuzzy.near: for each text of a list the near ones of another list. -/
import Derived.Test.YtdncdlcfgljheaaGv
import Derived.Test.YtdncdlcfgljheaaGs
import Derived.Test.YtdncdlcfgljheaaNb
namespace Go.Proofs.Ytdncdlcfgljheaa
open Go.RowKit

/-- What Lengths answers for a rule: whether there are bounds, and which. -/
def LenP (bnd : Bool) (lim : Nat) (w : World) (c : Nat) (e : Ending) (w' : World) : Prop :=
  ∃ lo hi : Int, e = .returned (.tuple #[.int .i64 lo, .int .i64 hi, .bool bnd]) ∧ (bnd = true → ∀ x : Nat, (lo ≤ (x : Int) ↔ c ≤ x + lim) ∧ ((x : Int) ≤ hi ↔ x ≤ c + lim)) ∧ Below w.heap.size w w'

/-- What is needed of a rule. -/
structure Ruled (K L N D : Int) (bnd : Bool) (lim : Nat) (sim : ByteArray → ByteArray → Bool) : Prop where
  valid : ∀ (W : World), Calls Try.prog 26 #[.agg #[.int .i64 K, .int .i64 L, .int .i64 N, .int .i64 D]] W (Ret W (.bool true))
  len : ∀ (W : World) (c : Nat), c ≤ 1099511627776 → Calls Try.prog 28 #[.agg #[.int .i64 K, .int .i64 L, .int .i64 N, .int .i64 D], .int .i64 (c : Int)] W (LenP bnd lim W c)
  sim : ∀ (W : World) (s t : ByteArray), s.size ≤ 1073741824 → t.size ≤ 1073741824 →
    Calls Try.prog 30 #[.agg #[.int .i64 K, .int .i64 L, .int .i64 N, .int .i64 D], .string s, .string t] W (Ret W (.bool (sim s t)))

/-- near by a rule -/
def nearB (bnd : Bool) (lim : Nat) (sim : ByteArray → ByteArray → Bool) (s t : ByteArray) : Bool :=
  (!bnd || decide (Lib.runeCount s ≤ Lib.runeCount t + lim ∧ Lib.runeCount t ≤ Lib.runeCount s + lim)) && sim s t
def nearS (bnd : Bool) (lim : Nat) (sim : ByteArray → ByteArray → Bool) (qs vs : List ByteArray) (i j : Nat) : Bool := nearB bnd lim sim (qs.getD i ⟨#[]⟩) (vs.getD j ⟨#[]⟩)

def NearP (w : World) (nq : Nat) (E : Nat → List Nat) (e : Ending) (w' : World) : Prop :=
  ∃ a c, e = .returned (.slice a nq c) ∧ RdNA w' w.heap.size w'.heap.size (.slice a nq c) nq E ∧ Below w.heap.size w w'

theorem made_rows (n : Nat) (h : n ≤ 1099511627776) (w : World) :
    (Instr.makeSlice 45 (.int .i64 (n : Int)) (.int .i64 (n : Int))).run Try.prog w = .ok (.slice (some ⟨w.heap.size, 0, none⟩) n n) (w.alloc (.cells (madeCells #[.slice none 0 0] n) 48)) :=
  run_make_row' (P := Try.prog) 45 48 (.slice none 0 0) 24 Try.underlying45 (by kernel_rfl) rfl .i64 .i64 n (by omega) (by omega) w

theorem nearE_snoc (S : Nat → Nat → Bool) (i j : Nat) : (List.range (j + 1)).filter (S i) = if S i j = true then (List.range j).filter (S i) ++ [j] else (List.range j).filter (S i) := by
  rw [List.range_succ, List.filter_append, List.filter_cons, List.filter_nil]
  split <;> simp
theorem nearE_len (S : Nat → Nat → Bool) (i j : Nat) : ((List.range j).filter (S i)).length ≤ j := by
  have := List.length_filter_le (S i) (List.range j)
  simpa using this

set_option maxRecDepth 100000 in
set_option maxHeartbeats 4000000 in
theorem fuzzy_near (K L N D : Int) (bnd : Bool) (lim : Nat) (sim : ByteArray → ByteArray → Bool) (HRU : Ruled K L N D bnd lim sim) (qv vv : Value) (qs vs : List ByteArray) (B : Nat) (w : World)
    (hq : RdS w B qv qs) (hv : RdS w B vv vs) (hB : B ≤ w.heap.size) (hsq : ∀ i, (qs.getD i ⟨#[]⟩).size ≤ 1073741824) (hsv : ∀ i, (vs.getD i ⟨#[]⟩).size ≤ 1073741824) (hnq : qs.length ≤ 1073741824) (hnv : vs.length ≤ 1073741824) :
    Calls Try.prog 19 #[.agg #[.int .i64 K, .int .i64 L, .int .i64 N, .int .i64 D], qv, vv] w (NearP w qs.length (Mt.nearE (nearS bnd lim sim qs vs) vs.length)) := by
  obtain ⟨i0, hi, hz0, hz1, hz2⟩ := info_parts info_int
  obtain ⟨qa, qc, rfl, hqc, hqm, hqx⟩ := hq
  obtain ⟨va, vc, rfl, hvc, hvm, hvx⟩ := hv
  have HR := hid HRU
  have HSQ := hid hsq
  have HSV := hid hsv
  have HNS := hid (fun i j => nearE_snoc (nearS bnd lim sim qs vs) i j)
  have HNL := hid (fun i j => nearE_len (nearS bnd lim sim qs vs) i j)
  have HNB : Hid (∀ i j, nearS bnd lim sim qs vs i j = nearB bnd lim sim (qs.getD i ⟨#[]⟩) (vs.getD j ⟨#[]⟩)) := hid (fun _ _ => rfl)
  have HEE : Hid (∀ i, Mt.nearE (nearS bnd lim sim qs vs) vs.length i = (List.range vs.length).filter (nearS bnd lim sim qs vs i)) := hid (fun _ => rfl)
  generalize Mt.nearE (nearS bnd lim sim qs vs) vs.length = E at *
  generalize nearS bnd lim sim qs vs = S at *
  generalize qs.length = nq at *
  generalize vs.length = nv at *
  have HQX := hid hqx
  have HVX := hid hvx
  clear hqx hvx hsq hsv HRU
  unfold maxLen at hqm hvm
  have hmk := made_rows nq (by omega)
  go_enter Try.func19, Try.ntmps19
  go_wp2
  have hrow0 := World.rowIs_made (w.alloc (.cells #[.int .i64 K, .int .i64 L, .int .i64 N, .int .i64 D] 29)) (.slice none 0 0) nq 48
  have HB0 := hid ((Below.refl (w.heap.size + 1) (w.alloc (.cells #[.int .i64 K, .int .i64 L, .int .i64 N, .int .i64 D] 29))).alloc (by simp) (.cells (madeCells #[.slice none 0 0] nq) 48))
  have HBW := hid ((Below.refl w.heap.size w).alloc (Nat.le_refl _) (.cells #[.int .i64 K, .int .i64 L, .int .i64 N, .int .i64 D] 29))
  have hk0 : (w.alloc (.cells #[.int .i64 K, .int .i64 L, .int .i64 N, .int .i64 D] 29)).cell? ⟨w.heap.size, 0, none⟩ = some (.int .i64 K) := by simp
  have hk1 : (w.alloc (.cells #[.int .i64 K, .int .i64 L, .int .i64 N, .int .i64 D] 29)).cell? ⟨w.heap.size, 1, none⟩ = some (.int .i64 L) := by simp
  have hk2 : (w.alloc (.cells #[.int .i64 K, .int .i64 L, .int .i64 N, .int .i64 D] 29)).cell? ⟨w.heap.size, 2, none⟩ = some (.int .i64 N) := by simp
  have hk3 : (w.alloc (.cells #[.int .i64 K, .int .i64 L, .int .i64 N, .int .i64 D] 29)).cell? ⟨w.heap.size, 3, none⟩ = some (.int .i64 D) := by simp
  have hszb : (w.alloc (.cells #[.int .i64 K, .int .i64 L, .int .i64 N, .int .i64 D] 29)).heap.size = w.heap.size + 1 := by simp
  rw [hszb] at hrow0
  have HK := hid (And.intro hk0 (And.intro hk1 (And.intro hk2 hk3)))
  have HST : Hid (Nst 48 3 (w.heap.size + 1) nq 0 E (fun _ => .slice none 0 0) ((w.alloc (.cells #[.int .i64 K, .int .i64 L, .int .i64 N, .int .i64 D] 29)).alloc (.cells (madeCells #[.slice none 0 0] nq) 48))) := hid (Nst.start hrow0)
  clear hk0 hk1 hk2 hk3 hrow0 hmk
  generalize (w.alloc (.cells #[.int .i64 K, .int .i64 L, .int .i64 N, .int .i64 D] 29)).alloc (.cells (madeCells #[.slice none 0 0] nq) 48) = w2 at *
  generalize w.alloc (.cells #[.int .i64 K, .int .i64 L, .int .i64 N, .int .i64 D] 29) = wb at *
  clear hszb
  go_loopg [21] nq (fun M i wr => ∃ k : Nat, nq - k = M ∧ k ≤ nq ∧ i = .int .i64 k ∧ Hid (∃ f, Nst 48 3 (w.heap.size + 1) nq k E f wr) ∧ Below (w.heap.size + 1) wb wr)
  case atStart => exact ⟨0, by omega, by omega, rfl, hid ⟨_, HST.out⟩, HB0.out⟩
  case round =>
    clear HST HB0
    obtain ⟨k, rfl, hk, rfl, hst, hbl⟩ := hrel
    have HBL := hid hbl
    clear hbl
    by_cases hlt : k < nq
    · obtain ⟨f, hf⟩ := hst.out
      have HIN := hid (hf.inside hlt)
      have hgz := hf.row.lt
      clear hf hst
      obtain ⟨b, o, rfl, hb, hcell⟩ := HQX.out (by omega)
      have hq0 : wr.cell? ⟨b, o + k, none⟩ = some (.string (qs.getD k ⟨#[]⟩)) := (HBL.out.cell (p := ⟨b, o + k, none⟩) (by show b < w.heap.size + 1; omega)).trans ((HBW.out.cell (p := ⟨b, o + k, none⟩) (by show b < w.heap.size; omega)).trans (hcell k hlt))
      have hss := HSQ.out k
      have HNBk := hid (fun j => HNB.out k j)
      clear hcell
      generalize qs.getD k ⟨#[]⟩ = s at *
      obtain ⟨hk0, hk1, hk2, hk3⟩ := HK.out
      have m0 : wr.cell? ⟨w.heap.size, 0, none⟩ = some (.int .i64 K) := (HBL.out.cell (p := ⟨w.heap.size, 0, none⟩) (by show w.heap.size < w.heap.size + 1; omega)).trans hk0
      have m1 : wr.cell? ⟨w.heap.size, 1, none⟩ = some (.int .i64 L) := (HBL.out.cell (p := ⟨w.heap.size, 1, none⟩) (by show w.heap.size < w.heap.size + 1; omega)).trans hk1
      have m2 : wr.cell? ⟨w.heap.size, 2, none⟩ = some (.int .i64 N) := (HBL.out.cell (p := ⟨w.heap.size, 2, none⟩) (by show w.heap.size < w.heap.size + 1; omega)).trans hk2
      have m3 : wr.cell? ⟨w.heap.size, 3, none⟩ = some (.int .i64 D) := (HBL.out.cell (p := ⟨w.heap.size, 3, none⟩) (by show w.heap.size < w.heap.size + 1; omega)).trans hk3
      clear hk0 hk1 hk2 hk3
      go_wp2_with fail
      go_region_held3 (fun w' => w'.cell? ⟨w.heap.size, 0, none⟩ = some (.int .i64 K) ∧ w'.cell? ⟨w.heap.size, 1, none⟩ = some (.int .i64 L) ∧ w'.cell? ⟨w.heap.size, 2, none⟩ = some (.int .i64 N) ∧ w'.cell? ⟨w.heap.size, 3, none⟩ = some (.int .i64 D))
        (first | exact ⟨m0, m1, m2, m3⟩ | exact ⟨n0, n1, n2, n3⟩ | exact ⟨o0, o1, o2, o3⟩ | go_keep)
        (first
          | (go_at_call 29; go_must (((with_reducible refine (utf8_count _ _ (Nat.le_trans hss (by omega))).mono ?_); rintro e w4 ⟨rfl, hb4⟩; have hz4 := hb4.size; (try simp at hz4); have n0 := cell_later hb4 (a := ⟨w.heap.size, 0, none⟩) (v := .int .i64 K) (by go_cell); have n1 := cell_later hb4 (a := ⟨w.heap.size, 1, none⟩) (v := .int .i64 L) (by go_cell); have n2 := cell_later hb4 (a := ⟨w.heap.size, 2, none⟩) (v := .int .i64 N) (by go_cell); have n3 := cell_later hb4 (a := ⟨w.heap.size, 3, none⟩) (v := .int .i64 D) (by go_cell))))
          | (go_at_call 28; go_must (((with_reducible refine (HR.out.len _ _ (by have := Lib.runeCount_le s; omega)).mono ?_); rintro e w5 ⟨lo, hi', rfl, hlh, hb5⟩; have hz5 := hb5.size; (try simp at hz5); have o0 := cell_later hb5 (a := ⟨w.heap.size, 0, none⟩) (v := .int .i64 K) (by go_cell); have o1 := cell_later hb5 (a := ⟨w.heap.size, 1, none⟩) (v := .int .i64 L) (by go_cell); have o2 := cell_later hb5 (a := ⟨w.heap.size, 2, none⟩) (v := .int .i64 N) (by go_cell); have o3 := cell_later hb5 (a := ⟨w.heap.size, 3, none⟩) (v := .int .i64 D) (by go_cell)))))
      have HBE := hid (show Below wr.heap.size wr w5 by repeat' (first | (with_reducible exact Below.refl _ _) | (with_reducible assumption) | (with_reducible refine below_drewN ?_) | (with_reducible refine Below.alloc ?_ ?_ _) | (with_reducible refine Below.drew ?_) | (with_reducible refine Below.setCell ?_ ?_ _) | (with_reducible refine Below.trans ?_ (Below.mono (by with_reducible assumption) ?_)) | go_size))
      have HIN5 := hid (HIN.out.keep HBE.out)
      have HB5 := hid (HBL.out.trans (HBE.out.mono (by omega)))
      have HLH := hid hlh
      have HCQ : Hid (Lib.runeCount s ≤ 1099511627776) := hid (by have := Lib.runeCount_le s; omega)
      clear hb4 hb5 hz4 hz5 m0 m1 m2 m3 n0 n1 n2 n3 o0 o1 o2 o3 hlh hq0 HIN HBL HBE
      generalize hMz : wr.heap.size = Mz at *
      clear hMz
      generalize hcs : Lib.runeCount s = cs at *
      have HCS := hid hcs
      clear hcs
      go_wp2
      go_loopg [36] nv (fun M i wi => ∃ (j : Nat) (xs : List Nat), nv - j = M ∧ j ≤ nv ∧ i = .int .i64 j ∧ xs.length ≤ j ∧ Hid (xs = (List.range j).filter (S k)) ∧ Hid (∃ f', Nin 48 3 (w.heap.size + 1) nq k Mz E xs f' wi) ∧ Below (w.heap.size + 1) wb wi)
      case atStart => exact ⟨0, [], by omega, by omega, rfl, by simp, hid (by simp), hid ⟨_, HIN5.out⟩, HB5.out⟩
      case round =>
        clear HIN5 HB5
        obtain ⟨j, xs, rfl, hj, rfl, hxl, hxs, hin, hbl⟩ := hrel
        have HBL := hid hbl
        clear hbl
        by_cases hjl : j < nv
        · obtain ⟨f', hf'⟩ := hin.out
          have HIN := hid hf'
          have hgz' := hf'.row.lt
          clear hf' hin
          obtain ⟨vb, vo, rfl, hvb, hcell⟩ := HVX.out (by omega)
          have hv0 : wr.cell? ⟨vb, vo + j, none⟩ = some (.string (vs.getD j ⟨#[]⟩)) := (HBL.out.cell (p := ⟨vb, vo + j, none⟩) (by show vb < w.heap.size + 1; omega)).trans ((HBW.out.cell (p := ⟨vb, vo + j, none⟩) (by show vb < w.heap.size; omega)).trans (hcell j hjl))
          have hst := HSV.out j
          have HNBj := hid (HNBk.out j)
          clear hcell
          generalize vs.getD j ⟨#[]⟩ = t at *
          go_wp2_with fail
          with_reducible refine (utf8_count _ _ (Nat.le_trans hst (by omega))).mono ?_
          rintro e w6 ⟨rfl, hb6⟩
          have HIN6 := hid (HIN.out.keep hb6)
          have HB6 := hid (HBL.out.trans (hb6.mono (by omega)))
          have hz6 := hb6.size
          have hct : Lib.runeCount t ≤ 1099511627776 := by have := Lib.runeCount_le t; omega
          have HNbj : Hid (S k j = ((!bnd || decide (cs ≤ Lib.runeCount t + lim ∧ Lib.runeCount t ≤ cs + lim)) && sim s t)) := hid (by rw [HNBj.out]; unfold nearB; rw [HCS.out])
          clear hb6 HIN HBL HNBj hv0
          generalize Lib.runeCount t = ct at *
          obtain ⟨hk0, hk1, hk2, hk3⟩ := HK.out
          have m0 : w6.cell? ⟨w.heap.size, 0, none⟩ = some (.int .i64 K) := (HB6.out.cell (p := ⟨w.heap.size, 0, none⟩) (by show w.heap.size < w.heap.size + 1; omega)).trans hk0
          have m1 : w6.cell? ⟨w.heap.size, 1, none⟩ = some (.int .i64 L) := (HB6.out.cell (p := ⟨w.heap.size, 1, none⟩) (by show w.heap.size < w.heap.size + 1; omega)).trans hk1
          have m2 : w6.cell? ⟨w.heap.size, 2, none⟩ = some (.int .i64 N) := (HB6.out.cell (p := ⟨w.heap.size, 2, none⟩) (by show w.heap.size < w.heap.size + 1; omega)).trans hk2
          have m3 : w6.cell? ⟨w.heap.size, 3, none⟩ = some (.int .i64 D) := (HB6.out.cell (p := ⟨w.heap.size, 3, none⟩) (by show w.heap.size < w.heap.size + 1; omega)).trans hk3
          clear hk0 hk1 hk2 hk3
          by_cases hin : bnd = true → lo ≤ (ct : Int) ∧ (ct : Int) ≤ hi'
          · have HNb2 : Hid (S k j = sim s t) := hid (by
              rw [HNbj.out]
              cases hbb : bnd with
              | false => simp
              | true =>
                have h1 := HLH.out hbb ct
                have h2 := hin hbb
                rw [decide_eq_true (by omega)]; simp)
            have hin2 : bnd = false ∨ (bnd = true ∧ lo ≤ (ct : Int) ∧ (ct : Int) ≤ hi') := by
              cases hbb : bnd with
              | false => exact .inl rfl
              | true => exact .inr ⟨rfl, hin hbb⟩
            clear hin
            have HSIM := hid (fun W => HR.out.sim W s t hss hst)
            generalize sim s t = sm at *
            rcases hin2 with rfl | ⟨rfl, h1, h2⟩
            all_goals
              go_wp2_with fail
              with_reducible refine (HSIM.out _).mono ?_
              rintro e w7 ⟨rfl, hb7⟩
              have HIN7 := hid (HIN6.out.keep hb7)
              have HB7 := hid (HB6.out.trans (hb7.mono (by omega)))
              have hz7 := hb7.size
              clear hb7 HIN6 HB6 m0 m1 m2 m3
              cases sm
              · go_wp2
                go_roundg (nv - (j + 1))
                case rel => exact ⟨j + 1, xs, by omega, by omega, by go_num, by omega, hid (by rw [HNS.out, if_neg (by rw [HNb2.out]; simp)]; exact hxs.out), hid ⟨f', HIN7.out⟩, HB7.out⟩
                case measure => omega
              · have hown7 := HIN7.out.here
                have hcell7 := HIN7.out.cell hlt
                obtain ⟨aa, cc, hfk⟩ := own_slice hown7
                have HFK := hid hfk
                rw [hfk] at hown7 hcell7
                clear hfk
                have hlow := HIN7.out.low
                have HO7 := hid hown7
                clear hown7
                go_wp2_with (at_builtin; refine wpList_append_form _ rfl _ _ 48 48 rfl Mz 3 3 i0 (.int .i64 0) 1 8 Try.underlying48 Try.underlying48 hi hz0 hz1 hz2 rfl (by decide) _ _ _ rfl (HO7.out.alloc _) _ 1 1 [.int .i64 (j : Int)] rfl rfl (fun _ => ⟨_, rfl, cell_one_new _ _ _⟩) (by intro u hu; simp at hu; subst hu; rfl) (by omega) (by unfold maxLen; omega) (by omega) (by simp; omega) ?_)
                intro g cap w8 hown8 hgrow8 hat8 hlt8
                have HINa := hid (HIN7.out.alloc (.cells #[.int .i64 (j : Int)] 3))
                have hgr : (w7.alloc (.cells #[.int .i64 (j : Int)] 3)).grownBy w8 (f' k).ownBlock := by rw [HFK.out]; exact hgrow8
                have HIN9 := hid (HINa.out.push hlt j g (xs.length + 1) cap rfl hown8 hgr)
                have hrow8 := HINa.out.row.of_block (hgr.block (w.heap.size + 1) HINa.out.row.lt (fun e => by have := (HINa.out.here.lt _ e.symm).1; omega))
                have c8 := hrow8.cell hlt
                have f8 := hrow8.frozen k
                have HB8 := (HB7.out.alloc (by omega) (.cells #[.int .i64 (j : Int)] 3)).grown hgr (by simp; omega) (fun b hb => by have := (HINa.out.here.lt b hb).1; omega)
                have HB9 := hid (HB8.setCell (p := ⟨w.heap.size + 1, k, none⟩) (Nat.le_refl _) (.slice (some ⟨g, 0, none⟩) (xs.length + 1) cap))
                clear HB8 hrow8 hgr hown8 hgrow8 hat8 hlt8
                go_wp2
                go_roundg (nv - (j + 1))
                case rel => exact ⟨j + 1, xs ++ [j], by omega, by omega, by go_num, by simp; omega, hid (by rw [HNS.out, if_pos HNb2.out, ← hxs.out]), hid ⟨_, HIN9.out⟩, HB9.out⟩
                case measure => omega
          · have hbb : bnd = true := by
              cases hbb : bnd with
              | true => rfl
              | false => exact absurd (fun h => by rw [hbb] at h; cases h) hin
            subst hbb
            have HNb2 : Hid (S k j = false) := hid (by
              rw [HNbj.out]
              have h1 := HLH.out rfl ct
              have h2 : ¬ (lo ≤ (ct : Int) ∧ (ct : Int) ≤ hi') := fun h => hin (fun _ => h)
              rw [decide_eq_false (by omega)]; simp)
            have hout : ¬ (lo ≤ (ct : Int) ∧ (ct : Int) ≤ hi') := fun h => hin (fun _ => h)
            clear hin m0 m1 m2 m3
            by_cases h1 : lo ≤ (ct : Int)
            · have h2 : ¬ (ct : Int) ≤ hi' := fun h => hout ⟨h1, h⟩
              clear hout
              go_wp2_with fail
              go_roundg (nv - (j + 1))
              case rel => exact ⟨j + 1, xs, by omega, by omega, by go_num, by omega, hid (by rw [HNS.out, if_neg (by rw [HNb2.out]; simp)]; exact hxs.out), hid ⟨f', HIN6.out⟩, HB6.out⟩
              case measure => omega
            · clear hout
              go_wp2_with fail
              go_roundg (nv - (j + 1))
              case rel => exact ⟨j + 1, xs, by omega, by omega, by go_num, by omega, hid (by rw [HNS.out, if_neg (by rw [HNb2.out]; simp)]; exact hxs.out), hid ⟨f', HIN6.out⟩, HB6.out⟩
              case measure => omega
        · obtain rfl : j = nv := by omega
          obtain ⟨f', hf'⟩ := hin.out
          have HOUT := hid (hf'.out (by rw [HEE.out]; exact hxs.out))
          clear hf' hin
          go_wp2
          go_roundg (nq - (k + 1))
          case rel => exact ⟨k + 1, by omega, by omega, by go_num, hid ⟨f', HOUT.out⟩, HBL.out⟩
          case measure => omega
    · obtain rfl : k = nq := by omega
      have HFIN : Hid (NearP w k E (.returned (.slice (some ⟨w.heap.size + 1, 0, none⟩) k k)) wr) := hid (by
        obtain ⟨f, hf⟩ := hst.out
        exact ⟨_, _, rfl, hf.rd (by unfold maxLen; omega) (by omega), HBW.out.trans (HBL.out.mono (by omega))⟩)
      go_wp2
      go_ret
      exact HFIN.out

end Go.Proofs.Ytdncdlcfgljheaa
