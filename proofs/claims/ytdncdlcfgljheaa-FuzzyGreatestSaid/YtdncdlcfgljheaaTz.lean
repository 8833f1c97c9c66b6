/- Contract of the trial of all pairings. -/
import Derived.Test.YtdncdlcfgljheaaTy
namespace Go.Proofs.Ytdncdlcfgljheaa
open Go.RowKit

def TryP (w : World) (r : List (Nat × Nat)) (e : Ending) (w' : World) : Prop := ∃ a c, e = .returned (.slice a r.length c) ∧ RdPr w' w'.heap.size (.slice a r.length c) r ∧ Below w.heap.size w w'

theorem pcells_len (ps : List (Nat × Nat)) : (pcells ps).length = ps.length * 2 := by
  induction ps with
  | nil => rfl
  | cons p ps ih => simp [pcells] at ih ⊢; omega
theorem pcells_one (ps : List (Nat × Nat)) : ∀ u ∈ pcells ps, u.oneCell' = true := by
  intro u hu
  obtain ⟨p, _, hu⟩ := List.mem_flatMap.1 hu
  simp at hu
  rcases hu with rfl | rfl <;> rfl
/-- the cells of pairs that are read, as one list -/
theorem pcells_there {w : World} {b o : Nat} {ps : List (Nat × Nat)} (h : ∀ i, i < ps.length → w.cell? ⟨b, o + i * 2, none⟩ = some (.int .i64 ((ps.getD i (0, 0)).1 : Int)) ∧ w.cell? ⟨b, o + i * 2 + 1, none⟩ = some (.int .i64 ((ps.getD i (0, 0)).2 : Int))) :
    ∀ j u, (pcells ps)[j]? = some u → w.cell? ((⟨b, o, none⟩ : Addr).add j) = some u := by
  intro j u hu
  rw [Addr.add_lit]
  have hj : j < ps.length * 2 := by
    have := (List.getElem?_eq_some_iff.1 hu).1
    rwa [pcells_len] at this
  obtain ⟨h1, h2⟩ := h (j / 2) (by omega)
  obtain ⟨g1, g2⟩ := pcells_at ps (j / 2) (by omega)
  rcases Nat.mod_two_eq_zero_or_one j with e | e
  · have ej : j / 2 * 2 = j := by omega
    rw [ej] at g1 h1
    rw [h1, ← g1, hu]
  · have ej : j / 2 * 2 + 1 = j := by omega
    rw [ej] at g2
    rw [show o + j / 2 * 2 + 1 = o + j by omega] at h2
    rw [h2, ← g2, hu]

theorem own_empty {w : World} {g : Nat} (e : TypeId) (size : Nat) (hg : g = w.heap.size) : (w.alloc (.cells #[] e)).ownsRow g e size (.slice (some ⟨g, 0, none⟩) 0 0) 0 [] := by
  subst hg
  exact ⟨by simp, .inr ⟨w.heap.size, 0, #[], rfl, Nat.le_refl _, heap_alloc_new w _, Nat.le_refl _, by simp [maxLen], by simp, by simp⟩⟩
theorem there_later {w : World} {b o : Nat} {xs : List Value} (h : ∀ j u, xs[j]? = some u → w.cell? ((⟨b, o, none⟩ : Addr).add j) = some u) (hb : b < w.heap.size) (O O' : Obj) :
    ∀ j u, xs[j]? = some u → ((w.alloc O).alloc O').cell? ((⟨b, o, none⟩ : Addr).add j) = some u := by
  intro j u hu
  rw [World.cell?_alloc_lt _ _ _ (by rw [Addr.add_lit, World.size_alloc]; show b < _; omega), World.cell?_alloc_lt _ _ _ (by rw [Addr.add_lit]; exact hb)]
  exact h j u hu

theorem any_take {P : List (Nat × Nat)} {q : Nat} (h : q < P.length) (j : Nat) : (P.take (q + 1)).any (fun p => p.2 == j) = ((P.take q).any (fun p => p.2 == j) || (P.getD q (0, 0)).2 == j) := by
  rw [List.take_succ_eq_append_getElem h, List.any_append]
  simp [List.getD, h]
theorem chosen_any {P : List (Nat × Nat)} {F : Nat → Bool} (h : Chosen P F) (j : Nat) : P.any (fun p => p.2 == j) = F j := by
  rw [Bool.eq_iff_iff, h j, List.any_eq_true]
  simp

theorem rdPr_snoc {w : World} {base : Nat} {v : Value} {P : List (Nat × Nat)} {k j : Nat} (h : w.ownsRow base 33 2 v (P.length + 1) (pcells P ++ [.int .i64 (k : Int), .int .i64 (j : Int)])) : RdPr w w.heap.size v (P ++ [(k, j)]) :=
  rdPr_of_own (by rw [← pcells_snoc, List.length_append]; exact h)

set_option maxRecDepth 100000 in
set_option maxHeartbeats 4000000 in
theorem law_try (K L N D : Int) (sim : ByteArray → ByteArray → Bool) (qs vs : List ByteArray)
    (HSIM : ∀ (W : World) (s t : ByteArray), s.size ≤ 1073741824 → t.size ≤ 1073741824 → Calls Try.prog 11 #[.agg #[.int .i64 K, .int .i64 L, .int .i64 N, .int .i64 D], .string s, .string t] W (Ret W (.bool (sim s t))))
    (hsq : ∀ i, (qs.getD i ⟨#[]⟩).size ≤ 1073741824) (hsv : ∀ i, (vs.getD i ⟨#[]⟩).size ≤ 1073741824) (hnq : qs.length ≤ 1048576) (hnv : vs.length ≤ 1048576) :
    ∀ (n i : Nat) (F : Nat → Bool) (P b : List (Nat × Nat)) (w : World) (B : Nat) (qv vv pv bv : Value), i + n = qs.length → P.length ≤ i → Chosen P F → RdS w B qv qs → RdS w B vv vs → RdPr w B pv P → RdPr w B bv b → B ≤ w.heap.size →
    Calls Try.prog 13 #[.agg #[.int .i64 K, .int .i64 L, .int .i64 N, .int .i64 D], qv, vv, .int .i64 (i : Int), pv, bv] w (TryP w (tried (fun x y => sim (qs.getD x ⟨#[]⟩) (vs.getD y ⟨#[]⟩)) vs.length n i F P b)) := by
  have HSM := hid HSIM
  have HSQ := hid hsq
  have HSV := hid hsv
  clear HSIM hsq hsv
  intro n
  induction n using Nat.strongRecOn with
  | _ n ih =>
    intro i F P b w B qv vv pv bv hin hPi hch hq hv hp hb hB
    have IH := hid ih
    clear ih
    have HQ := hid (Rd.more hq hB)
    have HV := hid (Rd.more hv hB)
    have HP := hid (Rd2.more hp hB)
    have HBV := hid (Rd2.more hb hB)
    have HCH := hid hch
    clear hq hv hp hb hch
    clear hB
    have HIN := hid hin
    obtain ⟨qa, qc, rfl, hqc, hqm, hqx⟩ := HQ.out
    obtain ⟨va, vc, rfl, hvc, hvm, hvx⟩ := HV.out
    obtain ⟨pa, pc, rfl, hpc, hpm, hpx⟩ := HP.out
    obtain ⟨ba, bc, rfl, -, hbm, -⟩ := HBV.out
    have HQX := hid hqx
    have HVX := hid hvx
    have HPX := hid hpx
    clear hqx hvx hpx
    unfold maxLen at hpm hbm hqm hvm
    obtain ⟨i0, hi, hz0, hz1, hz2⟩ := info_parts info_pair
    have HPI : Hid (Mt.pick b P = if b.length < P.length then P else b) := hid rfl
    have HPT : Hid (tried (fun x y => sim (qs.getD x ⟨#[]⟩) (vs.getD y ⟨#[]⟩)) vs.length n i F P b = triedR (fun x y => sim (qs.getD x ⟨#[]⟩) (vs.getD y ⟨#[]⟩)) vs.length n i F P (Mt.pick b P)) := hid (tried_start _ _ _ _ _ _ _)
    have HPCL := hid (pcells_len P)
    have hpn : P.length ≤ 1048576 := by omega
    generalize hS : (fun x y => sim (qs.getD x ⟨#[]⟩) (vs.getD y ⟨#[]⟩)) = S at *
    generalize hR : tried S vs.length n i F P b = R at *
    clear hR hin
    generalize hNQ : qs.length = nq at *
    generalize hNV : vs.length = nv at *
    have HNQ := hid hNQ
    have HNV := hid hNV
    clear hNQ hNV
    have HSS := hid hS
    clear hS
    go_enter Try.func13, Try.ntmps13
    go_upto_if 21 with fail
    go_cut [5] (fun v wc => ∃ a c, v = .slice a (Mt.pick b P).length c ∧ RdPr wc wc.heap.size v (Mt.pick b P) ∧ Below (w.heap.size + 1) (w.alloc (.cells #[.int .i64 K, .int .i64 L, .int .i64 N, .int .i64 D] 29)) wc)
    case first =>
      have HB0 : Hid (Below w.heap.size w (w.alloc (.cells #[.int .i64 K, .int .i64 L, .int .i64 N, .int .i64 D] 29))) := hid ((Below.refl _ _).alloc (Nat.le_refl _) _)
      by_cases hlt : b.length < P.length
      · obtain ⟨pb, po, rfl, hpb, hpcell⟩ := HPX.out (by omega)
        have HNW := hid (fun j u (h : (pcells P)[j]? = some u) => pcells_there hpcell j u h)
        clear hpcell
        go_wp2_with (at_builtin; refine wpList_append_form _ rfl (.tmp 22) (.tmp 23) 31 31 rfl (w.heap.size + 1) 33 33 i0 (.agg #[.int .i64 0, .int .i64 0]) 2 16 Try.underlying31 Try.underlying31 hi hz0 hz1 hz2 rfl (by decide) (.slice (some ⟨w.heap.size + 1, 0, none⟩) 0 0) 0 [] rfl (own_empty _ _ (by simp)) (some ⟨pb, po, none⟩) P.length pc (pcells P) rfl HPCL.out (fun _ => ⟨_, rfl, there_later HNW.out hpb _ _⟩) (pcells_one P) (by omega) (by unfold maxLen; omega) (by omega) (by simp) ?_)
        intro g2 cap2 w2 hown2 hg2 hat2 hlt2
        have HG2 : Hid (Below (w.heap.size + 1) (w.alloc (.cells #[.int .i64 K, .int .i64 L, .int .i64 N, .int .i64 D] 29)) w2) := hid (((Below.refl _ _).alloc (by simp) _).grown hg2 (by simp) (fun k hk => by simp [Value.ownBlock] at hk; omega))
        have HO2 := hid hown2
        clear hown2 hg2 hat2 hlt2
        go_wp2_with fail
        go_meet
        have hpk : Mt.pick b P = P := by rw [HPI.out, if_pos hlt]
        rw [hpk]
        exact ⟨_, cap2, rfl, rdPr_of_own HO2.out, HG2.out⟩
      · go_wp2_with fail
        go_meet
        have hpk : Mt.pick b P = b := by rw [HPI.out, if_neg hlt]
        rw [hpk]
        exact ⟨ba, bc, rfl, Rd2.more (Rd2.below HBV.out HB0.out (Nat.le_refl _)) (by simp), Below.refl _ _⟩
    case rest =>
      obtain ⟨a5, c5, rfl, h1, h3⟩ := hcut
      have HB0 : Hid (Below w.heap.size w (w.alloc (.cells #[.int .i64 K, .int .i64 L, .int .i64 N, .int .i64 D] 29))) := hid ((Below.refl _ _).alloc (Nat.le_refl _) _)
      have HCE : Hid ((w.alloc (.cells #[.int .i64 K, .int .i64 L, .int .i64 N, .int .i64 D] 29)).cell? ⟨w.heap.size, 0, none⟩ = some (.int .i64 K) ∧ (w.alloc (.cells #[.int .i64 K, .int .i64 L, .int .i64 N, .int .i64 D] 29)).cell? ⟨w.heap.size, 1, none⟩ = some (.int .i64 L) ∧ (w.alloc (.cells #[.int .i64 K, .int .i64 L, .int .i64 N, .int .i64 D] 29)).cell? ⟨w.heap.size, 2, none⟩ = some (.int .i64 N) ∧ (w.alloc (.cells #[.int .i64 K, .int .i64 L, .int .i64 N, .int .i64 D] 29)).cell? ⟨w.heap.size, 3, none⟩ = some (.int .i64 D)) := hid (by simp)
      have hzc := h3.size
      simp at hzc
      have HW0 : Hid ((w.alloc (.cells #[.int .i64 K, .int .i64 L, .int .i64 N, .int .i64 D] 29)).heap.size = w.heap.size + 1) := hid (by simp)
      have HRD := hid h1
      have HB1 := hid h3
      clear h1 h3
      have hin := HIN.out
      have hinq : i ≤ nq := by omega
      have HRS : Hid (triedR S nv (nq - i) i F P (Mt.pick b P) = R) := hid (by rw [show nq - i = n from by omega]; exact HPT.out.symm)
      clear hin
      generalize w.alloc (.cells #[.int .i64 K, .int .i64 L, .int .i64 N, .int .i64 D] 29) = W0 at *
      generalize hcu : Mt.pick b P = cu0 at *
      clear hcu
      go_wp2_with fail
      go_loopg [3, 5] (nq - i) (fun M iv bv wr => ∃ (k : Nat) (cur : List (Nat × Nat)) (a : Option Addr) (c : Nat), nq - k = M ∧ i ≤ k ∧ k ≤ nq ∧ iv = .int .i64 k ∧ bv = .slice a cur.length c ∧ Hid (RdPr wr wr.heap.size (.slice a cur.length c) cur ∧ Below (w.heap.size + 1) W0 wr ∧ triedR S nv (nq - k) k F P cur = R))
      case atStart => exact ⟨i, cu0, a5, c5, by omega, by omega, by omega, rfl, rfl, hid ⟨HRD.out, HB1.out, HRS.out⟩⟩
      case round =>
        clear HRD HB1 HRS hzc
        obtain ⟨k, cur, a, c, rfl, hik, hk, rfl, rfl, hst⟩ := hrel
        by_cases hlt : k < nq
        · have HST : Hid (RdPr wr wr.heap.size (.slice a cur.length c) cur ∧ Below (w.heap.size + 1) W0 wr ∧ triedC S nv (nq - (k + 1)) k 0 F P cur = R) := hid ⟨hst.out.1, hst.out.2.1, by rw [← triedR_succ, show nq - (k + 1) + 1 = nq - k by omega]; exact hst.out.2.2⟩
          clear hst
          go_wp2_with fail
          generalize hwo : wr = wo at *
          clear hwo
          go_loopg [33, 5] nv (fun M jv bv wr => ∃ (j : Nat) (cur : List (Nat × Nat)) (a : Option Addr) (c : Nat), nv - j = M ∧ j ≤ nv ∧ jv = .int .i64 j ∧ bv = .slice a cur.length c ∧ Hid (RdPr wr wr.heap.size (.slice a cur.length c) cur ∧ Below (w.heap.size + 1) W0 wr ∧ triedC S nv (nq - (k + 1)) k j F P cur = R))
          case atStart => exact ⟨0, cur, a, c, by omega, by omega, rfl, rfl, HST⟩
          case round =>
            clear HST
            obtain ⟨j, cur, a, c, rfl, hj, rfl, rfl, hst⟩ := hrel
            by_cases hjv : j < nv
            · have HST := hst
              clear hst
              go_wp2_with fail
              generalize hwo : wr = wi at *
              clear hwo
              go_loopg [38, 14] P.length (fun M qv uv wr => ∃ (q : Nat) (u : Bool), P.length - q = M ∧ q ≤ P.length ∧ qv = .int .i64 q ∧ uv = .bool u ∧ Hid (u = (P.take q).any (fun p => p.2 == j) ∧ Below wi.heap.size wi wr))
              case atStart => exact ⟨0, false, by omega, by omega, rfl, rfl, hid ⟨by simp, Below.refl _ _⟩⟩
              case round =>
                obtain ⟨q, u, rfl, hq, rfl, rfl, hsu⟩ := hrel
                by_cases hqp : q < P.length
                · obtain ⟨pb, po, rfl, hpb, hpcell⟩ := HPX.out (by omega)
                  obtain ⟨hp1, hp2⟩ := hpcell q hqp
                  have hz0 := HST.out.2.1.size
                  rw [HW0.out] at hz0
                  have hBW : Below w.heap.size w wr := HB0.out.trans ((HST.out.2.1.trans (hsu.out.2.mono hz0)).mono (by omega))
                  have g1 := (hBW.cell (p := ⟨pb, po + q * 2, none⟩) hpb).trans hp1
                  have g2 := (hBW.cell (p := ⟨pb, po + q * 2 + 1, none⟩) hpb).trans hp2
                  have HAT := hid (any_take hqp j)
                  clear hpcell hp1 hp2 hBW
                  generalize (P.getD q (0, 0)).1 = p1 at *
                  generalize (P.getD q (0, 0)).2 = p2 at *
                  have HBN := hid (hsu.out.2.alloc hsu.out.2.size (.cells #[.int .i64 (p1 : Int), .int .i64 (p2 : Int)] 33))
                  have HSU := hid hsu.out.1
                  clear hsu
                  cases u with
                  | true =>
                    go_wp2_with fail
                    go_roundg (P.length - (q + 1))
                    case rel => exact ⟨q + 1, true, by omega, by omega, by go_num, rfl, hid ⟨by rw [HAT.out, ← HSU.out]; rfl, HBN.out⟩⟩
                    case measure => omega
                  | false =>
                    by_cases hpj : p2 = j
                    · have hq1 : ((p2 : Int) == (j : Int)) = true := by simp; omega
                      have HPJ := hid hpj
                      clear hpj
                      go_wp2_with fail
                      go_roundg (P.length - (q + 1))
                      case rel => exact ⟨q + 1, true, by omega, by omega, by go_num, rfl, hid ⟨by rw [HAT.out, ← HSU.out]; simp [HPJ.out], HBN.out⟩⟩
                      case measure => omega
                    · have hq1 : ((p2 : Int) == (j : Int)) = false := by simp; omega
                      have HPJ := hid hpj
                      clear hpj
                      go_wp2_with fail
                      go_roundg (P.length - (q + 1))
                      case rel => exact ⟨q + 1, false, by omega, by omega, by go_num, rfl, hid ⟨by rw [HAT.out, ← HSU.out]; simp [HPJ.out], HBN.out⟩⟩
                      case measure => omega
                · obtain rfl : q = P.length := by omega
                  obtain rfl : u = F j := by have h := hsu.out.1; rw [List.take_length, chosen_any HCH.out] at h; exact h
                  have hz0 := HST.out.2.1.size
                  rw [HW0.out] at hz0
                  have HST2 : Hid (RdPr wr wr.heap.size (.slice a cur.length c) cur ∧ Below (w.heap.size + 1) W0 wr ∧ triedC S nv (nq - (k + 1)) k j F P cur = R) := hid ⟨Rd2.more (Rd2.below HST.out.1 hsu.out.2 (Nat.le_refl _)) hsu.out.2.size, HST.out.2.1.trans (hsu.out.2.mono hz0), HST.out.2.2⟩
                  have HSTEP := hid (triedC_step S nv (nq - (k + 1)) k j F P cur hjv)
                  clear HST hsu hz0
                  cases hFj : F j with
                  | true =>
                    have HFJ := hid hFj
                    clear hFj
                    go_wp2_with fail
                    go_quiet (fail)
                    go_wp2_with fail
                    go_roundg (nv - (j + 1))
                    case rel => exact ⟨j + 1, cur, a, c, by omega, by omega, by go_num, rfl, hid ⟨HST2.out.1, below_drewN HST2.out.2.1, by rw [← HST2.out.2.2, HSTEP.out, HFJ.out]; simp⟩⟩
                    case measure => omega
                  | false =>
                    have HFJ := hid hFj
                    clear hFj
                    obtain ⟨qb, qo, rfl, hqb, hqc2⟩ := HQX.out (by omega)
                    obtain ⟨vb, vo, rfl, hvb, hvc2⟩ := HVX.out (by omega)
                    have hBW : Below w.heap.size w wr := HB0.out.trans (HST2.out.2.1.mono (by omega))
                    have x0 : wr.cell? ⟨w.heap.size, 0, none⟩ = some (.int .i64 K) := (HST2.out.2.1.cell (p := ⟨w.heap.size, 0, none⟩) (by show w.heap.size < w.heap.size + 1; omega)).trans HCE.out.1
                    have x1 : wr.cell? ⟨w.heap.size, 1, none⟩ = some (.int .i64 L) := (HST2.out.2.1.cell (p := ⟨w.heap.size, 1, none⟩) (by show w.heap.size < w.heap.size + 1; omega)).trans HCE.out.2.1
                    have x2 : wr.cell? ⟨w.heap.size, 2, none⟩ = some (.int .i64 N) := (HST2.out.2.1.cell (p := ⟨w.heap.size, 2, none⟩) (by show w.heap.size < w.heap.size + 1; omega)).trans HCE.out.2.2.1
                    have x3 : wr.cell? ⟨w.heap.size, 3, none⟩ = some (.int .i64 D) := (HST2.out.2.1.cell (p := ⟨w.heap.size, 3, none⟩) (by show w.heap.size < w.heap.size + 1; omega)).trans HCE.out.2.2.2
                    have x4 : wr.cell? ⟨qb, qo + k, none⟩ = some (.string (qs.getD k ⟨#[]⟩)) := (hBW.cell (p := ⟨qb, qo + k, none⟩) hqb).trans (hqc2 k hlt)
                    have x5 : wr.cell? ⟨vb, vo + j, none⟩ = some (.string (vs.getD j ⟨#[]⟩)) := (hBW.cell (p := ⟨vb, vo + j, none⟩) hvb).trans (hvc2 j hjv)
                    have HSI := hid (fun W => HSM.out W _ _ (HSQ.out k) (HSV.out j))
                    have HSB : Hid (S k j = sim (qs.getD k ⟨#[]⟩) (vs.getD j ⟨#[]⟩)) := hid (by rw [← HSS.out])
                    have hzw : w.heap.size < wr.heap.size := by have h := HST2.out.2.1.size; rw [HW0.out] at h; omega
                    have hqbr : qb < wr.heap.size := by omega
                    have hvbr : vb < wr.heap.size := by omega
                    have HBW := hid hBW
                    clear hqc2 hvc2 hBW
                    generalize qs.getD k ⟨#[]⟩ = sq at *
                    generalize vs.getD j ⟨#[]⟩ = sv at *
                    generalize sim sq sv = sb at *
                    have hd1 : (0 : Int) ≤ (k : Int) := by omega
                    have hd2 : (k : Int) < (nq : Int) := by omega
                    have hd3 : (0 : Int) ≤ (j : Int) := by omega
                    have hd4 : (j : Int) < (nv : Int) := by omega
                    go_wp2_with fail
                    go_region_held3 (fun w' => w'.cell? ⟨w.heap.size, 0, none⟩ = some (.int .i64 K) ∧ w'.cell? ⟨w.heap.size, 1, none⟩ = some (.int .i64 L) ∧ w'.cell? ⟨w.heap.size, 2, none⟩ = some (.int .i64 N) ∧ w'.cell? ⟨w.heap.size, 3, none⟩ = some (.int .i64 D) ∧ w'.cell? ⟨qb, qo + k, none⟩ = some (.string sq) ∧ w'.cell? ⟨vb, vo + j, none⟩ = some (.string sv))
                      (first | exact ⟨x0, x1, x2, x3, x4, x5⟩ | exact ⟨n0, n1, n2, n3, n4, n5⟩ | go_keep)
                      (first
                        | (go_at_call 11; go_must (((with_reducible refine (HSI.out _).mono ?_); rintro e w9 ⟨rfl, hb9⟩; have hz9 := hb9.size; (try simp at hz9); have n0 := cell_later hb9 (a := ⟨w.heap.size, 0, none⟩) (v := .int .i64 K) (by go_cell); have n1 := cell_later hb9 (a := ⟨w.heap.size, 1, none⟩) (v := .int .i64 L) (by go_cell); have n2 := cell_later hb9 (a := ⟨w.heap.size, 2, none⟩) (v := .int .i64 N) (by go_cell); have n3 := cell_later hb9 (a := ⟨w.heap.size, 3, none⟩) (v := .int .i64 D) (by go_cell); have n4 := cell_later hb9 (a := ⟨qb, qo + k, none⟩) (v := .string sq) (by go_cell); have n5 := cell_later hb9 (a := ⟨vb, vo + j, none⟩) (v := .string sv) (by go_cell)))))
                    have HB9 := hid (show Below wr.heap.size wr w9 by repeat' (first | (with_reducible exact Below.refl _ _) | (with_reducible assumption) | (with_reducible refine below_drewN ?_) | (with_reducible refine Below.alloc ?_ ?_ _) | (with_reducible refine Below.drew ?_) | (with_reducible refine Below.setCell ?_ ?_ _) | (with_reducible refine Below.trans ?_ (Below.mono (by with_reducible assumption) ?_)) | go_size))
                    have hz9' := HB9.out.size
                    have hzc : W0.heap.size ≤ wr.heap.size := HST2.out.2.1.size
                    rw [HW0.out] at hzc
                    have HST3 : Hid (RdPr w9 w9.heap.size (.slice a cur.length c) cur ∧ Below (w.heap.size + 1) W0 w9) := hid ⟨Rd2.more (Rd2.below HST2.out.1 HB9.out (Nat.le_refl _)) hz9', HST2.out.2.1.trans (HB9.out.mono hzc)⟩
                    clear hb9 x0 x1 x2 x3 x4 x5 n4 n5
                    cases sb with
                    | false =>
                      clear n0 n1 n2 n3
                      go_wp2_with fail
                      go_roundg (nv - (j + 1))
                      case rel => exact ⟨j + 1, cur, a, c, by omega, by omega, by go_num, rfl, hid ⟨HST3.out.1, HST3.out.2, by rw [← HST2.out.2.2, HSTEP.out, HSB.out]; simp⟩⟩
                      case measure => omega
                    | true =>
                      have HBW9 : Hid (Below w.heap.size w w9) := hid (HBW.out.trans (HB9.out.mono (by omega)))
                      have HREC : Hid (∀ (W : World) (a' : Option Addr) (c' : Nat), Below w.heap.size w W → RdPr W W.heap.size (.slice a' (P.length + 1) c') (P ++ [(k, j)]) → RdPr W W.heap.size (.slice a cur.length c) cur →
                          Calls Try.prog 13 #[.agg #[.int .i64 K, .int .i64 L, .int .i64 N, .int .i64 D], .slice (some ⟨qb, qo, none⟩) nq qc, .slice (some ⟨vb, vo, none⟩) nv vc, .int .i64 ((k : Int) + 1), .slice a' (P.length + 1) c', .slice a cur.length c] W (TryP W (tried S nv (nq - (k + 1)) (k + 1) (Mt.mark F j true) (P ++ [(k, j)]) cur))) := hid (by
        intro W a' c' hWB hWP hWC
        have hQ : RdS w w.heap.size (.slice (some ⟨qb, qo, none⟩) nq qc) qs := by unfold RdS; rw [HNQ.out]; exact HQ.out
        have hV : RdS w w.heap.size (.slice (some ⟨vb, vo, none⟩) nv vc) vs := by unfold RdS; rw [HNV.out]; exact HV.out
        have hx := IH.out (nq - (k + 1)) (by have := HIN.out; omega) (k + 1) (Mt.mark F j true) (P ++ [(k, j)]) cur W W.heap.size (.slice (some ⟨qb, qo, none⟩) nq qc) (.slice (some ⟨vb, vo, none⟩) nv vc) (.slice a' (P.length + 1) c') (.slice a cur.length c) (by omega) (by simp; omega) (HCH.out.mark k j) (Rd.more (Rd.below hQ hWB (Nat.le_refl _)) hWB.size) (Rd.more (Rd.below hV hWB (Nat.le_refl _)) hWB.size) hWP hWC (Nat.le_refl _)
        rw [show ((k + 1 : Nat) : Int) = (k : Int) + 1 from by omega] at hx
        exact hx)
                      have HSTEP2 : Hid (triedC S nv (nq - (k + 1)) k (j + 1) F P (tried S nv (nq - (k + 1)) (k + 1) (Mt.mark F j true) (P ++ [(k, j)]) cur) = R) := hid (by
        have h := HSTEP.out
        rw [HST2.out.2.2, HFJ.out, HSB.out] at h
        simpa using h.symm)
                      have HNONE : Hid (pa = none → P.length = 0 ∧ P.length = 0) := hid (fun e => by
        by_cases h0 : P.length = 0
        · exact ⟨h0, h0⟩
        · obtain ⟨pb, po, e2, -⟩ := HPX.out (by omega)
          rw [e] at e2; cases e2)
                      have HOLD : Hid (∀ W, Below w.heap.size w W → ∀ x, pa = some x → ∀ j u, (pcells P)[j]? = some u → W.cell? (x.add j) = some u) := hid (by
        intro W hWB x hx j u hu
        have h0 : 0 < P.length := by
          have := (List.getElem?_eq_some_iff.1 hu).1
          rw [HPCL.out] at this
          omega
        obtain ⟨pb, po, e2, hpb, hpcell⟩ := HPX.out h0
        rw [hx] at e2
        cases e2
        exact (hWB.cell (by rw [Addr.add_lit]; exact hpb)).trans (pcells_there hpcell j u hu))
                      generalize tried S nv (nq - (k + 1)) (k + 1) (Mt.mark F j true) (P ++ [(k, j)]) cur = R2 at *
                      have hs1 : (0 : Int) ≤ (P.length : Int) := by omega
                      have hs2 : (P.length : Int) ≤ (pc : Int) := by omega
                      have hw1 : IntKind.i64.wrap ((k : Int) + 1) = (k : Int) + 1 := IntWalk.i64_in _ (by omega)
                      have hz90 : w.heap.size < w9.heap.size := by omega
                      go_wp2_with fail
                      go_region_held3 (fun w' => w'.cell? ⟨w.heap.size, 0, none⟩ = some (.int .i64 K) ∧ w'.cell? ⟨w.heap.size, 1, none⟩ = some (.int .i64 L) ∧ w'.cell? ⟨w.heap.size, 2, none⟩ = some (.int .i64 N) ∧ w'.cell? ⟨w.heap.size, 3, none⟩ = some (.int .i64 D))
                        (first | exact ⟨n0, n1, n2, n3⟩ | exact ⟨m0, m1, m2, m3⟩ | exact ⟨o0, o1, o2, o3⟩ | go_keep)
                        (first
                          | (go_at_call 13; go_must (((with_reducible refine (HREC.out _ _ _ (by exact HBW2.out) (by exact HRP2.out) (by exact HRC2.out)).mono ?_); rintro e w11 ⟨a5, c5, rfl, hr5, hb5⟩; have o0 := cell_later hb5 (a := ⟨w.heap.size, 0, none⟩) (v := .int .i64 K) (by go_cell); have o1 := cell_later hb5 (a := ⟨w.heap.size, 1, none⟩) (v := .int .i64 L) (by go_cell); have o2 := cell_later hb5 (a := ⟨w.heap.size, 2, none⟩) (v := .int .i64 N) (by go_cell); have o3 := cell_later hb5 (a := ⟨w.heap.size, 3, none⟩) (v := .int .i64 D) (by go_cell))))
                          | ((refine step_append_grows rfl (.tmp 74) (.tmp 78) 31 rfl 33 i0 (.agg #[.int .i64 0, .int .i64 0]) 2 16 Try.underlying31 hi hz0 hz1 hz2 rfl (by decide) pa P.length P.length (pcells P) rfl HNONE.out HPCL.out (HOLD.out _ (by have h9 := HBW9.out; repeat' (first | (with_reducible exact Below.refl _ _) | (with_reducible assumption) | (with_reducible refine below_drewN ?_) | (with_reducible refine Below.alloc ?_ ?_ _) | (with_reducible refine Below.drew ?_) | (with_reducible refine Below.setCell ?_ ?_ _) | (with_reducible refine Below.trans ?_ (Below.mono (by with_reducible assumption) ?_)) | go_size))) ⟨_, 0, none⟩ 1 1 [.int .i64 (k : Int), .int .i64 (j : Int)] rfl rfl (cell_two_new _ _ _ _) (by intro u hu; simp at hu; rcases hu with rfl | rfl <;> rfl) (by omega) (by unfold maxLen; omega) (by omega) ?_); intro v2 w2 hown2 hg2; have hB2 : Below w9.heap.size w9 w2 := Below.grown (by repeat' (first | (with_reducible exact Below.refl _ _) | (with_reducible assumption) | (with_reducible refine below_drewN ?_) | (with_reducible refine Below.alloc ?_ ?_ _) | (with_reducible refine Below.drew ?_) | (with_reducible refine Below.setCell ?_ ?_ _) | (with_reducible refine Below.trans ?_ (Below.mono (by with_reducible assumption) ?_)) | go_size)) hg2 (by go_size) (fun _ h => by cases h); have m0 := (hB2.cell (p := ⟨w.heap.size, 0, none⟩) hz90).trans n0; have m1 := (hB2.cell (p := ⟨w.heap.size, 1, none⟩) hz90).trans n1; have m2 := (hB2.cell (p := ⟨w.heap.size, 2, none⟩) hz90).trans n2; have m3 := (hB2.cell (p := ⟨w.heap.size, 3, none⟩) hz90).trans n3; obtain ⟨a2, c2, rfl⟩ := own_slice hown2; have HRP2 := hid (rdPr_snoc hown2); have HBW2 := hid (HBW9.out.trans (hB2.mono (by omega))); have HRC2 := hid (show RdPr w2 w2.heap.size (.slice a cur.length c) cur from Rd2.more (Rd2.below HST3.out.1 hB2 (Nat.le_refl _)) hB2.size); have HB2 := hid hB2; have hz2 := hB2.size; clear hown2 hg2 hB2))
                      have HB5 := hid (show Below w2.heap.size w2 w11 by repeat' (first | (with_reducible exact Below.refl _ _) | (with_reducible assumption) | (with_reducible refine below_drewN ?_) | (with_reducible refine Below.alloc ?_ ?_ _) | (with_reducible refine Below.drew ?_) | (with_reducible refine Below.setCell ?_ ?_ _) | (with_reducible refine Below.trans ?_ (Below.mono (by with_reducible assumption) ?_)) | go_size))
                      have HRD5 := hid hr5
                      have HBA : Hid (Below (w.heap.size + 1) W0 w11) := hid (HST3.out.2.trans ((HB2.out.trans (HB5.out.mono hz2)).mono (by omega)))
                      clear hb5 hr5 n0 n1 n2 n3 m0 m1 m2 m3 o0 o1 o2 o3
                      go_wp2_with fail
                      go_roundg (nv - (j + 1))
                      case rel => exact ⟨j + 1, R2, a5, c5, by omega, by omega, by go_num, rfl, hid ⟨HRD5.out, HBA.out, HSTEP2.out⟩⟩
                      case measure => omega
            · obtain rfl : j = nv := by omega
              have HST : Hid (RdPr wr wr.heap.size (.slice a cur.length c) cur ∧ Below (w.heap.size + 1) W0 wr ∧ triedR S j (nq - (k + 1)) (k + 1) F P cur = R) := hid ⟨hst.out.1, hst.out.2.1, by rw [← triedC_end]; exact hst.out.2.2⟩
              clear hst
              go_wp2_with fail
              go_roundg (nq - (k + 1))
              case rel => exact ⟨k + 1, cur, a, c, by omega, by omega, by omega, by go_num, rfl, HST⟩
              case measure => omega
        · obtain rfl : k = nq := by omega
          have hR := hst.out.2.2
          rw [Nat.sub_self, triedR_zero] at hR
          subst hR
          have HFIN : Hid (TryP w cur (.returned (.slice a cur.length c)) wr) := hid ⟨a, c, rfl, hst.out.1, HB0.out.trans (hst.out.2.1.mono (by omega))⟩
          clear hst
          go_wp2_with fail
          go_ret
          exact HFIN.out

end Go.Proofs.Ytdncdlcfgljheaa
