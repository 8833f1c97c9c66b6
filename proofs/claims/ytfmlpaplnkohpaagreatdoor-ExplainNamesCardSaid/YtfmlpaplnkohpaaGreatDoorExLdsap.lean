/- Contract of explain.project. Plain: a sorted list of texts without repetitions is the set of its texts; two sets with the same texts are one. No program in sight. -/
import Derived.Test.YtfmlpaplnkohpaaGreatDoorExLdsah
import Derived.Test.YtfmlpaplnkohpaaGreatDoorExLdsao
import Derived.Lib.SlicesCompact
import Derived.Sort.EncStr
import Derived.Sort.Walk0
import Derived.Test.YtfmlpaplnkohpaaGreatDoorExLdsaa
set_option linter.unusedVariables false
set_option linter.unusedSimpArgs false
namespace Go.Proofs.YtfmlpaplnkohpaaGreatDoor
open Go.RowKit

set_option maxHeartbeats 1000000 in
theorem project1 (x : Co) (u : Value) (s : ByteArray) (cb : Nat) (w : World) (hu : ∃ a n c, u = .slice a n c) (h1 : w.cell? ⟨cb, 0, none⟩ = some (.string s)) (hcb : cb < w.heap.size) :
    Calls Tryz.prog 76 #[.agg #[.string x.name, u], .pointer (some ⟨cb, 0, none⟩)] w (Ret w (.bool (decide (x.name = s)))) := by
  obtain ⟨ua, un, uc, rfl⟩ := hu
  obtain ⟨xn, xc⟩ := x
  simp only
  have hx := BoxN.new w #[.string xn, .slice ua un uc] 39
  have x0 := hx.cell 0 rfl
  have k1 : (w.alloc (.cells #[.string xn, .slice ua un uc] 39)).cell? ⟨cb, 0, none⟩ = some (.string s) := (World.cell?_alloc_lt _ _ _ hcb).trans h1
  have HB0 := hid ((Below.refl w.heap.size w).alloc (Nat.le_refl _) (.cells #[.string xn, .slice ua un uc] 39))
  clear hx h1
  by_cases h : xn = s
  · subst h
    have h2 : (xn.toList == xn.toList) = true := by simp
    have HR : Hid (decide (xn = xn) = true) := hid (by simp)
    go_enter Tryz.func76, Tryz.ntmps76
    go_wp2
    go_ret
    exact ⟨ret_bool HR.out.symm, HB0.out⟩
  · have h2 : (xn.toList == s.toList) = false := by
      cases h5 : (xn.toList == s.toList) with
      | false => rfl
      | true => exact absurd (bytes_ext (eq_of_beq h5)) h
    have HR : Hid (decide (xn = s) = false) := hid (decide_eq_false h)
    clear h
    go_enter Tryz.func76, Tryz.ntmps76
    go_wp2
    go_ret
    exact ⟨ret_bool HR.out.symm, HB0.out⟩

set_option maxRecDepth 100000 in
set_option maxHeartbeats 1000000 in
theorem idx_cols (v : Value) (xs : List Co) (s : ByteArray) (cb B : Nat) (w : World) (hv : RdCo w (· < B) v xs) (hB : B ≤ w.heap.size) (h1 : w.cell? ⟨cb, 0, none⟩ = some (.string s)) (hcb : cb < w.heap.size) :
    Calls Tryz.prog 75 #[v, .func (.func 76) #[] #[.pointer (some ⟨cb, 0, none⟩)]] w (fun e w' => ∃ r, e = .returned (.int .i64 r) ∧ Fst (fun k => decide ((xs.getD k Co.z).name = s)) xs.length r ∧ Below w.heap.size w w') := by
  obtain ⟨cv, ⟨a, c, rfl, hc, hm, hr⟩, hcl⟩ := hv
  have HR := hid hr
  have HCL := hid (fun q (hq : q < xs.length) => (by obtain ⟨a, c, e, -⟩ := hcl q hq; exact ⟨_, _, _, e⟩ : ∃ a n c, cv q = .slice a n c))
  have HV1 := hid (fun q (hq : q < xs.length) W (hW : Below w.heap.size w W) => project1 (xs.getD q Co.z) (cv q) s cb W (HCL.out q hq) ((hW.cell (p := ⟨cb, 0, none⟩) hcb).trans h1) (Nat.lt_of_lt_of_le hcb hW.size))
  obtain ⟨p, hp⟩ : ∃ p : Nat → Bool, p = fun k => decide ((xs.getD k Co.z).name = s) := ⟨_, rfl⟩
  have HP := hid hp
  have HPQ := hid (fun q => (by rw [hp] : p q = decide ((xs.getD q Co.z).name = s)))
  rw [← hp]
  clear hr hcl hp
  unfold maxLen at hm
  generalize hxl : xs.length = L at *
  clear hxl
  go_enter Tryz.func75, Tryz.ntmps75
  go_wp2_with fail
  go_loopg [8] L (fun N i wr => ∃ q : Nat, q + N = L ∧ i = .int .i64 (q : Int) ∧ Hid (Below w.heap.size w wr) ∧ Hid (∀ j, j < q → p j = false))
  case atStart => exact ⟨0, by omega, rfl, hid (Below.refl _ _), hid (fun j h => absurd h (by omega))⟩
  case round =>
    obtain ⟨q, hq, rfl, HB, HALL⟩ := hrel
    by_cases hp : 0 < gk
    · obtain ⟨b, o, rfl, hb, hcell⟩ := HR.out (by omega)
      have hbw : b < w.heap.size := by have : b < B := hb; omega
      obtain ⟨qa, qn, qc, hcq⟩ := HCL.out q (by omega)
      have k0 : wr.cell? ⟨b, o + q * 2, none⟩ = some (.string (xs.getD q Co.z).name) := (HB.out.cell (p := ⟨b, o + q * 2, none⟩) hbw).trans (hcell q (by omega) 0 (by omega))
      have k1 : wr.cell? ⟨b, o + q * 2 + 1, none⟩ = some (cv q) := (HB.out.cell (p := ⟨b, o + q * 2 + 1, none⟩) hbw).trans (hcell q (by omega) 1 (by omega))
      have HVQ := hid (HV1.out q (by omega) wr HB.out)
      rw [hcq] at k1 HVQ
      rw [← HPQ.out q] at HVQ
      have HST : Hid (p q = false → ∀ j, j < q + 1 → p j = false) := hid (fun h j hj => by
        rcases Nat.lt_or_ge j q with h1 | h1
        · exact HALL.out j h1
        · obtain rfl : j = q := by omega
          exact h)
      clear hcell hcq
      generalize (xs.getD q Co.z).name = nm at *
      go_wp2_with fail
      with_reducible refine HVQ.out.mono ?_
      rintro e w6 ⟨rfl, hb6⟩
      have HB6 := hid (HB.out.trans (hb6.mono HB.out.size))
      clear hb6 k0 k1
      cases hpq : p q with
      | true =>
        have HPT := hid hpq
        clear hpq
        go_wp2
        go_ret
        exact ⟨_, rfl, .inr ⟨q, rfl, by omega, HPT.out, HALL.out⟩, HB6.out⟩
      | false =>
        have HS2 := hid (HST.out hpq)
        clear hpq
        go_wp2_with fail
        go_roundg (gk - 1)
        case rel => exact ⟨q + 1, by omega, by go_num, HB6, HS2⟩
        case measure => omega
    · obtain rfl : q = L := by omega
      go_wp2
      go_ret
      exact ⟨_, rfl, .inl ⟨rfl, HALL.out⟩, HB.out⟩

theorem fst_idx {a : List Co} {s : ByteArray} {r : Int} (h : Fst (fun k => decide ((a.getD k Co.z).name = s)) a.length r) : (r = -1 ∧ s ∉ namesL a) ∨ (s ∈ namesL a ∧ r = (idxN a s : Int)) := by
  rcases h with ⟨rfl, h⟩ | ⟨i, rfl, hi, h1, h2⟩
  · left
    refine ⟨rfl, fun hm => ?_⟩
    have h3 := idxN_lt hm
    have h4 := of_decide_eq_false (h _ h3)
    exact h4 (idxN_name hm)
  · right
    have hs : (a.getD i Co.z).name = s := of_decide_eq_true h1
    have hm : s ∈ namesL a := by rw [← hs]; exact name_mem hi
    refine ⟨hm, ?_⟩
    have h3 := idxN_lt hm
    have h4 := idxN_name hm
    rcases Nat.lt_trichotomy (idxN a s) i with h5 | h5 | h5
    · exact absurd h4 (of_decide_eq_false (h2 _ h5))
    · rw [h5]
    · have h6 := idxP_before (l := namesL a) (s := s) (j := i) h5
      rw [namesL_getD] at h6
      exact absurd hs h6
/-- is it the same columns so far? -/
def plainTo (a b : List Co) (q : Nat) : Bool := decide (a.length = b.length) && decide ((fromL a b).take q = List.range q)
theorem from_len (a b : List Co) : (fromL a b).length = b.length := by simp [fromL]
theorem from_snoc {a b : List Co} {q : Nat} (h : q < b.length) : (fromL a b).take (q + 1) = (fromL a b).take q ++ [idxN a (b.getD q Co.z).name] := by
  rw [List.take_succ_eq_append_getElem (by rw [from_len]; exact h)]
  simp [fromL, List.getD, h]
theorem plain_snoc {a b : List Co} {q : Nat} (h : q < b.length) : plainTo a b (q + 1) = (plainTo a b q && decide (idxN a (b.getD q Co.z).name = q)) := by
  unfold plainTo
  rw [from_snoc h, List.range_succ, Bool.and_assoc]
  congr 1
  have hl : ((fromL a b).take q).length = (List.range q).length := by rw [List.length_take, from_len, List.length_range]; omega
  rw [← Bool.decide_and, decide_eq_decide]
  constructor
  · intro h
    obtain ⟨h1, h2⟩ := List.append_inj h hl
    exact ⟨h1, by simpa using h2⟩
  · rintro ⟨h1, h2⟩
    rw [h1, h2]
theorem proj_miss {a b : List Co} {q : Nat} (hq : q < b.length) (h : (b.getD q Co.z).name ∉ namesL a) : projOf a b = none := by
  unfold projOf
  rw [if_neg]
  intro hh
  have := List.all_eq_true.1 hh _ (getD_mem hq Co.z)
  obtain ⟨s, hs, he⟩ := List.any_eq_true.1 this
  exact h (by rw [← of_decide_eq_true he]; exact hs)
theorem proj_have {a b : List Co} (h : ∀ q, q < b.length → (b.getD q Co.z).name ∈ namesL a) : projOf a b = if plainTo a b b.length = true then some [] else some [opProj (fromL a b)] := by
  unfold projOf
  rw [if_pos (all_there fun s hs => ?_)]
  · unfold plainTo
    rw [List.take_of_length_le (by rw [from_len]; omega), ← Bool.decide_and]
    simp only [decide_eq_true_eq]
  · obtain ⟨c, hc, rfl⟩ := List.mem_map.1 hs
    obtain ⟨i, hi, rfl⟩ := List.getElem_of_mem hc
    have := h i hi
    simpa [List.getD, hi] using this
theorem ks_own {w : World} {base : Nat} {v : Value} {ks : List Nat} (h : w.ownsRow base 3 1 v ks.length (iv ks)) : RdKs w (fun b => base ≤ b ∧ b < w.heap.size) v (ks.map fun (k : Nat) => (k : Int)) := by
  obtain ⟨a, c, rfl⟩ := own_slice h
  by_cases hp : 0 < ks.length
  · obtain ⟨g, cap, e, -, -⟩ := h.form hp
    obtain ⟨rfl, -, rfl⟩ := Value.slice.inj e
    obtain ⟨h1, h2, h3, h4⟩ := own_caps h
    refine ⟨_, _, by rw [List.length_map], by rw [List.length_map]; exact h1, h2, fun _ => ⟨g, 0, rfl, ⟨h3, h4⟩, fun i hi j hj => ?_⟩⟩
    obtain rfl : j = 0 := by omega
    rw [List.length_map] at hi
    rw [show 0 + i * 1 + 0 = i by omega, h.cellAt i (by omega), iv_at hi]
    simp [natF, zF, List.getD, hi]
  · have e : ks = [] := List.eq_nil_of_length_eq_zero (by omega)
    subst e
    have hc : 0 ≤ c ∧ c ≤ maxLen := by
      rcases h.2 with ⟨e1, _⟩ | ⟨g, cap, cur, e1, _, _, _, hm, _⟩
      · obtain ⟨-, -, rfl⟩ := Value.slice.inj e1
        exact ⟨Nat.le_refl _, Nat.zero_le _⟩
      · obtain ⟨-, -, rfl⟩ := Value.slice.inj e1
        exact ⟨Nat.zero_le _, hm⟩
    exact ⟨a, c, rfl, hc.1, hc.2, fun h => absurd h (by simp)⟩
/-- the operation that gives the names, or none -/
def ProjP (w : World) (a b : List Co) (e : Ending) (w' : World) : Prop :=
  ∃ v, e = .returned (.tuple #[v, .bool (projOf a b).isSome]) ∧ RdPo w' (News w w') v ((projOf a b).getD []) ∧ Below w.heap.size w w'

set_option maxRecDepth 100000 in
set_option maxHeartbeats 4000000 in
theorem expl_project (ia ib : Int) (na nb : ByteArray) (u v : Value) (a b : List Co) (B : Nat) (w : World) (hu : RdCo w (· < B) u a) (hv : RdCo w (· < B) v b) (hB : B ≤ w.heap.size) (hla : a.length ≤ 64) (hlb : b.length ≤ 64) :
    Calls Tryz.prog 41 #[.agg #[.int .i64 ia, .string na, u], .agg #[.int .i64 ib, .string nb, v]] w (ProjP w a b) := by
  obtain ⟨i0, hi0, hz0, hz1, hz2⟩ := info_parts info_int0
  have HIX := hid (fun cb s W (hW : Below w.heap.size w W) (h1 : W.cell? ⟨cb, 0, none⟩ = some (.string s)) (hcb : cb < W.heap.size) => idx_cols u a s cb B W (hu.keep fun p (hp : p.block < B) => hW.cell (p := p) (by omega)) (Nat.le_trans hB hW.size) h1 hcb)
  obtain ⟨cu, ⟨ua, uc, rfl, huc, hum, -⟩, -⟩ := hu
  obtain ⟨cv, ⟨va, vc, rfl, hvc, hvm, hvr⟩, hcv⟩ := hv
  have HV := hid hvr
  have HCV := hid (fun q (hq : q < b.length) => (by obtain ⟨a, c, e, -⟩ := hcv q hq; exact ⟨_, _, _, e⟩ : ∃ a n c, cv q = .slice a n c))
  have HFI := hid (fun s r (h : Fst (fun k => decide ((a.getD k Co.z).name = s)) a.length r) => fst_idx h)
  have HFL := hid (from_len a b)
  have HSN := hid (fun q (hq : q < b.length) => @from_snoc a b q hq)
  have HPN := hid (fun q (hq : q < b.length) => @plain_snoc a b q hq)
  have HMI := hid (fun q (hq : q < b.length) h => @proj_miss a b q hq h)
  have HHV := hid (@proj_have a b)
  have HP0 : Hid (plainTo a b 0 = decide (a.length = b.length)) := hid (by simp [plainTo])
  have HIN : Hid (∀ s, s ∈ namesL a → idxN a s < a.length) := hid (fun s hs => idxN_lt hs)
  clear hvr hcv
  unfold maxLen at hum hvm
  generalize hal : a.length = La at *
  generalize hbl : b.length = Lb at *
  clear hal hbl
  have hx0 := ((BoxN.new w #[.int .i64 ia, .string na, .slice ua La uc] 29).alloc (.cells #[.int .i64 ib, .string nb, .slice va Lb vc] 29)).alloc (.cells #[] 3)
  have hy0 := (BoxN.new (w.alloc (.cells #[.int .i64 ia, .string na, .slice ua La uc] 29)) #[.int .i64 ib, .string nb, .slice va Lb vc] 29).alloc (.cells #[] 3)
  rw [World.size_alloc] at hy0
  have HX0 := hid hx0
  have x2 := hx0.cell 2 rfl
  have y2 := hy0.cell 2 rfl
  have HB0 := hid ((((Below.refl w.heap.size w).alloc (Nat.le_refl _) (.cells #[.int .i64 ia, .string na, .slice ua La uc] 29)).alloc (by simp) (.cells #[.int .i64 ib, .string nb, .slice va Lb vc] 29)).alloc (by simp; omega) (.cells #[] 3))
  have ho0 := World.ownsRow_made (base := w.heap.size + 2) (e := 3) (size := 1) ((w.alloc (.cells #[.int .i64 ia, .string na, .slice ua La uc] 29)).alloc (.cells #[.int .i64 ib, .string nb, .slice va Lb vc] 29)) #[] 0 (by simp) (Nat.zero_le _) rfl
  rw [World.size_alloc, World.size_alloc] at ho0
  have HO0 := hid ho0
  have hz0' : (((w.alloc (.cells #[.int .i64 ia, .string na, .slice ua La uc] 29)).alloc (.cells #[.int .i64 ib, .string nb, .slice va Lb vc] 29)).alloc (.cells #[] 3)).heap.size = w.heap.size + 3 := by simp
  have hdl : ((La : Int) == (Lb : Int)) = decide (La = Lb) := by
    by_cases h : La = Lb
    · subst h; simp
    · rw [decide_eq_false h]; simp; omega
  clear hx0 hy0 ho0
  go_enter Tryz.func41, Tryz.ntmps41
  generalize hLA : Code.loop _ = LA
  go_wp2_with fail
  generalize ((w.alloc (.cells #[.int .i64 ia, .string na, .slice ua La uc] 29)).alloc (.cells #[.int .i64 ib, .string nb, .slice va Lb vc] 29)).alloc (.cells #[] 3) = W0 at *
  have hz0a := Nat.le_of_eq hz0'
  have hz0b := Nat.le_of_eq hz0'.symm
  clear hz0' x2 y2
  subst hLA
  go_loopg [6, 7, 22] Lb (fun N y pl i wr => ∃ (q : Nat), i = .int .i64 (q : Int) ∧ pl = .bool (plainTo a b q) ∧ q + N = Lb ∧ w.heap.size + 3 ≤ wr.heap.size ∧ Hid (Below w.heap.size w wr) ∧ Hid (BoxN wr w.heap.size 29 #[.int .i64 ia, .string na, .slice ua La uc]) ∧ Hid (wr.ownsRow (w.heap.size + 2) 3 1 y q (iv ((fromL a b).take q))) ∧ Hid (∀ j, j < q → (b.getD j Co.z).name ∈ namesL a))
  case atStart => exact ⟨0, rfl, by rw [HP0.out], by omega, by omega, HB0, HX0, HO0, hid (fun j h => absurd h (by omega))⟩
  case round =>
    obtain ⟨q, rfl, rfl, hq, hlw, HB, HX, HO, HALL⟩ := hrel
    obtain ⟨ya, yc, rfl⟩ := own_slice HO.out
    by_cases hp : 0 < gk
    · have hqL : q < Lb := by omega
      obtain ⟨ba, oa, rfl, hba, hcella⟩ := HV.out (by omega)
      have hba' : ba < B := hba
      have k1 : wr.cell? ⟨ba, oa + q * 2, none⟩ = some (.string (b.getD q Co.z).name) := (HB.out.cell (p := ⟨ba, oa + q * 2, none⟩) (by show ba < w.heap.size; omega)).trans (hcella q hqL 0 (by omega))
      have k2 : wr.cell? ⟨ba, oa + q * 2 + 1, none⟩ = some (cv q) := (HB.out.cell (p := ⟨ba, oa + q * 2 + 1, none⟩) (by show ba < w.heap.size; omega)).trans (hcella q hqL 1 (by omega))
      obtain ⟨ca, cn, ck, hcq⟩ := HCV.out q hqL
      rw [hcq] at k2
      have HSNq := hid (HSN.out q hqL)
      have HPNq := hid (HPN.out q hqL)
      have HMIq := hid (HMI.out q hqL)
      have HA1 : Hid ((b.getD q Co.z).name ∈ namesL a → ∀ j, j < q + 1 → (b.getD j Co.z).name ∈ namesL a) := hid (fun h j hj => by
        rcases Nat.lt_or_ge j q with h1 | h1
        · exact HALL.out j h1
        · obtain rfl : j = q := by omega
          exact h)
      clear hcella hcq
      generalize (b.getD q Co.z).name = s at *
      generalize hpl : plainTo a b q = pl at *
      clear hpl
      have HX2 := hid (HX.out.alloc (.cells #[.string s, .slice ca cn ck] 39))
      have HC2 := hid (BoxN.new wr #[.string s, .slice ca cn ck] 39)
      have HB2 := hid (HB.out.alloc (by omega) (.cells #[.string s, .slice ca cn ck] 39))
      have HO2 := hid (HO.out.alloc (.cells #[.string s, .slice ca cn ck] 39))
      have hz2' : (wr.alloc (.cells #[.string s, .slice ca cn ck] 39)).heap.size = wr.heap.size + 1 := by simp
      have x2 := HX2.out.cell 2 rfl
      have hx2 := HX.out.cell 2 rfl
      go_wp2_with fail
      generalize wr.alloc (.cells #[.string s, .slice ca cn ck] 39) = W2 at *
      have hz2a := Nat.le_of_eq hz2'
      have hz2b := Nat.le_of_eq hz2'.symm
      clear hz2' k1 k2 x2 hx2
      with_reducible refine (HIX.out wr.heap.size s W2 HB2.out (HC2.out.cell 0 rfl) HC2.out.lt).mono ?_
      rintro e w3 ⟨r, rfl, hf, hb3⟩
      have hz3 := hb3.size
      have HB3 := hid (HB2.out.trans (hb3.mono (by omega)))
      have HX3 := hid (HX2.out.below hb3 HX2.out.lt)
      have HO3 := hid (own_later HO2.out hb3)
      clear hb3
      rcases HFI.out s r hf with ⟨rfl, hno⟩ | ⟨hyes, rfl⟩
      · have HNO := hid (HMIq.out hno)
        clear hno hf
        go_wp2
        refine bodyPost_ret (v := .tuple #[.slice none 0 0, .bool false]) (by simp [results, Tryz.results41, go_sem]) rfl ?_
        unfold ProjP
        rw [HNO.out]
        exact ⟨_, rfl, RdPo.nil, HB3.out⟩
      · have hkL := HIN.out s hyes
        have HA2 := hid (HA1.out hyes)
        clear hf hyes
        generalize idxN a s = kk at *
        have HN4 := hid (BoxN.new w3 #[.int .i64 (kk : Int)] 3)
        have HO4 := hid (HO3.out.alloc (.cells #[.int .i64 (kk : Int)] 3))
        have HB4 := hid (HB3.out.alloc (by omega) (.cells #[.int .i64 (kk : Int)] 3))
        have HX4 := hid (HX3.out.alloc (.cells #[.int .i64 (kk : Int)] 3))
        have hk0 : ¬ (kk : Int) < 0 := by omega
        cases pl with
        | false =>
          have HP2 : Hid (plainTo a b (q + 1) = false) := hid (by rw [HPNq.out]; rfl)
          go_wp2_with (at_builtin; refine wpList_append_form _ rfl _ _ 22 22 rfl (w.heap.size + 2) 3 3 i0 (.int .i64 0) 1 8 Tryz.underlying22 Tryz.underlying22 hi0 hz0 hz1 hz2 rfl (by decide) (.slice ya q yc) q _ rfl HO4.out (some ⟨_, 0, none⟩) 1 1 [.int .i64 (kk : Int)] rfl rfl (fun _ => ⟨_, rfl, World.news_of_block HN4.out⟩) (by intro u hu; simp at hu; subst hu; rfl) (by omega) (by unfold maxLen; omega) (by omega) (by simp; omega) ?_; intro p8 cap8 w8 hown8 hg8 hat8 hlt8; have HG8 := hid hg8; have HOWN8 := hid hown8; clear hown8 hg8 hat8)
          · have hgs := HG8.out.size
            go_wp2
            go_roundg (gk - 1)
            case rel =>
              refine ⟨q + 1, by go_num, by rw [HP2.out], by omega, by simp at hgs; omega, hid (HB4.out.grown HG8.out (by simp; omega) (fun k hk => by have := (HO.out.lt k hk).1; omega)), hid (HX4.out.grown HG8.out (fun e => by have := (HO.out.lt _ e.symm).1; omega)), hid ?_, HA2⟩
              rw [HSNq.out, show iv ((fromL a b).take q ++ [kk]) = iv ((fromL a b).take q) ++ [.int .i64 (kk : Int)] by simp [iv]]
              exact HOWN8.out
            case measure => omega
        | true =>
          by_cases hkq : kk = q
          · have HP2 : Hid (plainTo a b (q + 1) = true) := hid (by rw [HPNq.out, decide_eq_true hkq]; rfl)
            have hke : ((kk : Int) == (q : Int)) = true := by rw [hkq]; simp
            clear hkq
            go_wp2_with (at_builtin; refine wpList_append_form _ rfl _ _ 22 22 rfl (w.heap.size + 2) 3 3 i0 (.int .i64 0) 1 8 Tryz.underlying22 Tryz.underlying22 hi0 hz0 hz1 hz2 rfl (by decide) (.slice ya q yc) q _ rfl HO4.out (some ⟨_, 0, none⟩) 1 1 [.int .i64 (kk : Int)] rfl rfl (fun _ => ⟨_, rfl, World.news_of_block HN4.out⟩) (by intro u hu; simp at hu; subst hu; rfl) (by omega) (by unfold maxLen; omega) (by omega) (by simp; omega) ?_; intro p8 cap8 w8 hown8 hg8 hat8 hlt8; have HG8 := hid hg8; have HOWN8 := hid hown8; clear hown8 hg8 hat8)
            have hgs := HG8.out.size
            go_wp2
            go_roundg (gk - 1)
            case rel =>
              refine ⟨q + 1, by go_num, by rw [HP2.out], by omega, by simp at hgs; omega, hid (HB4.out.grown HG8.out (by simp; omega) (fun k hk => by have := (HO.out.lt k hk).1; omega)), hid (HX4.out.grown HG8.out (fun e => by have := (HO.out.lt _ e.symm).1; omega)), hid ?_, HA2⟩
              rw [HSNq.out, show iv ((fromL a b).take q ++ [kk]) = iv ((fromL a b).take q) ++ [.int .i64 (kk : Int)] by simp [iv]]
              exact HOWN8.out
            case measure => omega
          · have HP2 : Hid (plainTo a b (q + 1) = false) := hid (by rw [HPNq.out, decide_eq_false hkq]; rfl)
            have hke : ((kk : Int) == (q : Int)) = false := by simp; omega
            clear hkq
            go_wp2_with (at_builtin; refine wpList_append_form _ rfl _ _ 22 22 rfl (w.heap.size + 2) 3 3 i0 (.int .i64 0) 1 8 Tryz.underlying22 Tryz.underlying22 hi0 hz0 hz1 hz2 rfl (by decide) (.slice ya q yc) q _ rfl HO4.out (some ⟨_, 0, none⟩) 1 1 [.int .i64 (kk : Int)] rfl rfl (fun _ => ⟨_, rfl, World.news_of_block HN4.out⟩) (by intro u hu; simp at hu; subst hu; rfl) (by omega) (by unfold maxLen; omega) (by omega) (by simp; omega) ?_; intro p8 cap8 w8 hown8 hg8 hat8 hlt8; have HG8 := hid hg8; have HOWN8 := hid hown8; clear hown8 hg8 hat8)
            have hgs := HG8.out.size
            go_wp2
            go_roundg (gk - 1)
            case rel =>
              refine ⟨q + 1, by go_num, by rw [HP2.out], by omega, by simp at hgs; omega, hid (HB4.out.grown HG8.out (by simp; omega) (fun k hk => by have := (HO.out.lt k hk).1; omega)), hid (HX4.out.grown HG8.out (fun e => by have := (HO.out.lt _ e.symm).1; omega)), hid ?_, HA2⟩
              rw [HSNq.out, show iv ((fromL a b).take q ++ [kk]) = iv ((fromL a b).take q) ++ [.int .i64 (kk : Int)] by simp [iv]]
              exact HOWN8.out
            case measure => omega
    · obtain rfl : gk = 0 := by omega
      obtain rfl : q = Lb := by omega
      have hpj := HHV.out HALL.out
      have hown := HO.out
      rw [List.take_of_length_le (by rw [HFL.out]; omega)] at hown
      have HOW := hid hown
      clear hown HPN HSN HMI
      cases hpl : plainTo a b q with
      | true =>
        rw [hpl, if_pos rfl] at hpj
        have HPJ := hid hpj
        clear hpj hpl
        go_wp2
        refine bodyPost_ret (v := .tuple #[.slice none 0 0, .bool true]) (by simp [results, Tryz.results41, go_sem]) rfl ?_
        unfold ProjP
        rw [HPJ.out]
        exact ⟨_, rfl, RdPo.nil, HB.out⟩
      | false =>
        rw [hpl, if_neg (by simp)] at hpj
        have HPJ := hid hpj
        have HKS : Hid (RdKs (wr.alloc (.cells #[.int .i64 3, .int .i64 0, .string ⟨#[]⟩, .slice ya q yc] 47)) (News w (wr.alloc (.cells #[.int .i64 3, .int .i64 0, .string ⟨#[]⟩, .slice ya q yc] 47))) (.slice ya q yc) (opProj (fromL a b)).cols) := hid (by
          have h1 := HOW.out
          rw [← HFL.out] at h1
          have h2 := ks_own h1
          rw [HFL.out] at h2
          exact InK.more (InK.keep h2 fun p hp => World.cell?_alloc_lt _ _ _ hp.2) fun b hb => ⟨by have := hb.1; omega, by have := hb.2; simp; omega⟩)
        have HN5 := hid (BoxN.new wr #[.int .i64 3, .int .i64 0, .string ⟨#[]⟩, .slice ya q yc] 47)
        have HB5 := hid (HB.out.alloc (by omega) (.cells #[.int .i64 3, .int .i64 0, .string ⟨#[]⟩, .slice ya q yc] 47))
        clear hpj hpl
        go_wp2
        refine bodyPost_ret (v := .tuple #[.slice (some ⟨wr.heap.size, 0, none⟩) 1 1, .bool true]) (by simp [results, Tryz.results41, go_sem]) rfl ?_
        unfold ProjP
        rw [HPJ.out]
        exact ⟨_, rfl, rdPo_one (o := opProj (fromL a b)) HN5.out HKS.out ⟨by omega, by simp⟩, HB5.out⟩
end Go.Proofs.YtfmlpaplnkohpaaGreatDoor

namespace Go.Proofs.YtfmlpaplnkohpaaGreatDoor
open Go.Lib

theorem sl_lt (a b : ByteArray) : sl a b = decide (a.toList < b.toList) := by unfold sl; exact bytesLess_eq _ _

theorem asc_unique : ∀ {xs ys : List ByteArray}, Asc xs → Asc ys → (∀ x, x ∈ xs ↔ x ∈ ys) → xs = ys
  | [], [], _, _, _ => rfl
  | [], y :: ys, _, _, h => by have := (h y).2 (by simp); simp at this
  | x :: xs, [], _, _, h => by have := (h x).1 (by simp); simp at this
  | x :: xs, y :: ys, hx, hy, h => by
    have hx' := List.pairwise_cons.1 hx
    have hy' := List.pairwise_cons.1 hy
    have hxy : x = y := by
      rcases List.mem_cons.1 ((h x).1 (by simp)) with e | h1
      · exact e
      · rcases List.mem_cons.1 ((h y).2 (by simp)) with e | h2
        · exact e.symm
        · have h3 := sl_trans (hy'.1 x h1) (hx'.1 y h2)
          rw [sl_irrefl] at h3
          cases h3
    subst hxy
    have : xs = ys := asc_unique hx'.2 hy'.2 (fun z => by
      constructor
      · intro hz
        rcases List.mem_cons.1 ((h z).1 (by simp [hz])) with e | h1
        · subst e
          have h3 := hx'.1 z hz
          rw [sl_irrefl] at h3
          cases h3
        · exact h1
      · intro hz
        rcases List.mem_cons.1 ((h z).2 (by simp [hz])) with e | h1
        · subst e
          have h3 := hy'.1 z hz
          rw [sl_irrefl] at h3
          cases h3
        · exact h1)
    rw [this]

theorem put1_mem_iff {xs : List ByteArray} {s x : ByteArray} : x ∈ put1 xs s ↔ x = s ∨ x ∈ xs := by
  refine ⟨put1_mem, fun h => ?_⟩
  have hk := before_le s xs
  unfold put1
  simp only
  split
  · rw [List.mem_append, List.mem_cons]
    rcases h with rfl | h
    · exact .inr (.inl rfl)
    · rw [← List.take_append_drop (before s xs) xs, List.mem_append] at h
      rcases h with h | h
      · exact .inl h
      · exact .inr (.inr h)
  · rename_i hc
    rcases h with rfl | h
    · have h1 : before x xs ≠ xs.length := fun e => hc (.inl e)
      have h2 : xs.getD (before x xs) ⟨#[]⟩ = x := by
        apply Classical.byContradiction
        exact fun e => hc (.inr e)
      have h3 : before x xs < xs.length := by omega
      rw [List.getD, List.getElem?_eq_getElem h3] at h2
      simp at h2
      rw [← h2]
      exact List.getElem_mem _
    · exact h
theorem foldl_put1_mem (l : List ByteArray) : ∀ (acc : List ByteArray) (x : ByteArray), x ∈ l.foldl put1 acc ↔ x ∈ acc ∨ x ∈ l := by
  induction l with
  | nil => simp
  | cons a l ih =>
    intro acc x
    rw [List.foldl_cons, ih, put1_mem_iff, List.mem_cons]
    constructor
    · rintro ((h | h) | h)
      · exact .inr (.inl h)
      · exact .inl h
      · exact .inr (.inr h)
    · rintro (h | h | h)
      · exact .inl (.inr h)
      · exact .inl (.inl h)
      · exact .inr h
theorem setOfL_mem_iff (l : List ByteArray) (x : ByteArray) : x ∈ setOfL l ↔ x ∈ l := by
  unfold setOfL
  rw [foldl_put1_mem]
  simp

/-- what is kept of a sorted row -/
theorem compactUpTo_spec (d : Array (List UInt8)) (hs : ∀ i j, i < j → j < d.size → d[i]! ≤ d[j]!) : ∀ m, m ≤ d.size →
    (compactUpTo d m).Pairwise (· < ·) ∧ (∀ y ∈ compactUpTo d m, ∃ i, i < m ∧ y = d[i]!) ∧ (∀ i, i < m → d[i]! ∈ compactUpTo d m) := by
  intro m
  induction m with
  | zero => intro _; exact ⟨by simp [compactUpTo], by simp [compactUpTo], fun i h => by omega⟩
  | succ m ih =>
    intro hm
    obtain ⟨h1, h2, h3⟩ := ih (by omega)
    rw [compactUpTo_succ]
    by_cases hk : keeps d m = true
    · rw [if_pos hk]
      refine ⟨?_, ?_, ?_⟩
      · rw [List.pairwise_append]
        refine ⟨h1, List.pairwise_singleton _ _, fun y hy z hz => ?_⟩
        rw [List.mem_singleton] at hz
        subst hz
        obtain ⟨i, hi, rfl⟩ := h2 y hy
        have hne : d[m]! ≠ d[m - 1]! := by
          unfold keeps at hk
          rcases of_decide_eq_true hk with h | h
          · omega
          · exact h
        have hle : d[m - 1]! ≤ d[m]! := hs _ _ (by omega) (by omega)
        have hlt : d[m - 1]! < d[m]! := Classical.byContradiction fun h => hne (List.le_antisymm (show d[m]! ≤ d[m - 1]! from h) hle)
        rcases Nat.lt_or_ge i (m - 1) with h | h
        · exact List.lt_of_le_of_lt (hs i (m - 1) h (by omega)) hlt
        · obtain rfl : i = m - 1 := by omega
          exact hlt
      · intro y hy
        rcases List.mem_append.1 hy with hy | hy
        · obtain ⟨i, hi, e⟩ := h2 y hy
          exact ⟨i, by omega, e⟩
        · exact ⟨m, by omega, by simpa using hy⟩
      · intro i hi
        rw [List.mem_append]
        rcases Nat.lt_or_ge i m with h | h
        · exact .inl (h3 i h)
        · obtain rfl : i = m := by omega
          exact .inr (by simp)
    · rw [if_neg hk, List.append_nil]
      refine ⟨h1, fun y hy => ?_, fun i hi => ?_⟩
      · obtain ⟨i, hi, e⟩ := h2 y hy
        exact ⟨i, by omega, e⟩
      · rcases Nat.lt_or_ge i m with h | h
        · exact h3 i h
        · obtain rfl : i = m := by omega
          have hn : ¬ (i = 0 ∨ d[i]! ≠ d[i - 1]!) := fun e => hk (by unfold keeps; exact decide_eq_true e)
          have he : d[i]! = d[i - 1]! := Classical.byContradiction fun e => hn (.inr e)
          rw [he]
          exact h3 (i - 1) (by have : i ≠ 0 := fun e => hn (.inl e); omega)

def bytesOf (l : List UInt8) : ByteArray := ⟨l.toArray⟩
def listOf (a : ByteArray) : List UInt8 := a.data.toList
theorem bytesOf_listOf (a : ByteArray) : bytesOf (listOf a) = a := by cases a; rfl
theorem listOf_bytesOf (l : List UInt8) : listOf (bytesOf l) = l := by simp [listOf, bytesOf]

/-- sorted and compacted it is the set -/
theorem compact_sorted (xs : List ByteArray) : (compact ((xs.map listOf).mergeSort fun x y => decide (x ≤ y))).map bytesOf = setOfL xs := by
  generalize hZ : (xs.map listOf).mergeSort (fun x y => decide (x ≤ y)) = zs
  have hperm : zs.Perm (xs.map listOf) := by rw [← hZ]; exact List.mergeSort_perm _ _
  have hsort : zs.Pairwise (fun x y => x ≤ y) := by
    rw [← hZ]
    have := List.pairwise_mergeSort (le := fun (x y : List UInt8) => decide (x ≤ y)) (fun a b c h1 h2 => by
      simp only [decide_eq_true_eq] at *
      exact List.le_trans h1 h2) (fun a b => by
      simp only [Bool.or_eq_true, decide_eq_true_eq]
      exact List.le_total a b) (xs.map listOf)
    exact this.imp (fun h => by simpa using h)
  have hs : ∀ i j, i < j → j < zs.toArray.size → zs.toArray[i]! ≤ zs.toArray[j]! := by
    intro i j hij hj
    have hj' : j < zs.length := by simpa using hj
    rw [getElem!_pos zs.toArray i (by simp; omega), getElem!_pos zs.toArray j (by simpa using hj')]
    simpa using List.pairwise_iff_getElem.1 hsort i j (by omega) hj' hij
  obtain ⟨h1, h2, h3⟩ := compactUpTo_spec zs.toArray hs zs.length (by simp)
  refine asc_unique ?_ (setOfL_asc xs) ?_
  · unfold Asc
    rw [List.pairwise_map]
    refine h1.imp (fun {a b} h => ?_)
    rw [sl_lt, toList_data, toList_data]
    exact decide_eq_true (by simpa [bytesOf] using h)
  · intro x
    rw [setOfL_mem_iff, List.mem_map]
    constructor
    · rintro ⟨y, hy, rfl⟩
      obtain ⟨i, hi, rfl⟩ := h2 y hy
      have : zs.toArray[i]! ∈ zs := by rw [getElem!_pos zs.toArray i (by simpa using hi)]; simp
      obtain ⟨z, hz, e⟩ := List.mem_map.1 (hperm.mem_iff.1 this)
      rw [← e, bytesOf_listOf]
      exact hz
    · intro hx
      have : listOf x ∈ zs := hperm.mem_iff.2 (List.mem_map.2 ⟨x, hx, rfl⟩)
      obtain ⟨i, hi, e⟩ := List.mem_iff_getElem.1 this
      refine ⟨listOf x, ?_, bytesOf_listOf x⟩
      have h4 := h3 i hi
      rw [getElem!_pos zs.toArray i (by simpa using hi)] at h4
      rw [← e]
      simpa [compact] using h4
theorem compact_len (xs : List ByteArray) : (compact ((xs.map listOf).mergeSort fun x y => decide (x ≤ y))).length = (setOfL xs).length := by
  rw [← compact_sorted, List.length_map]

end Go.Proofs.YtfmlpaplnkohpaaGreatDoor
