/- Contract of copies.Align. DERIVED: THE SHELF's CONTRACTS AT THIS DUMP, IN PLAIN WORDS (tools/lay-plain.mjs out of 'YtfcccldofaleoaaGreatDoorShIL.lean', which tools/lay-shelf.mjs wrote): THE SAME DECLARATIONS UNDER THE SAME NAMES: 'import', 'namespace', 'open', 'def', 'theorem' AND NOTHING ELSE: no command of the shelf's: FOR A HAND-IN. Each laying: the table of numbers ('.._ren') and one theorem, a field a fact of the dump's own or the kernel's comparison; each contract: ONE APPLICATION. Contracts of strings.Builder at this dump. -/
import Derived.Test.YtfcccldofaleoaaGreatDoorCopLesbm
import Derived.Shelf.Strconv.Itoa3
import Derived.Test.YtfcccldofaleoaaGreatDoorProg
import Derived.Shelf.Strings.BuilderK
namespace Go.Proofs.YtfcccldofaleoaaGreatDoor
open Go.RowKit Go.Shelf

theorem align_one (s1 s : ByteArray) (ka : Option Addr) (kn kc cb : Nat) (w : World) (h1 : w.cell? ⟨cb, 0, none⟩ = some (.string s)) :
    Calls Tryz.prog 47 #[.agg #[.string s1, .slice ka kn kc], .pointer (some ⟨cb, 0, none⟩)] w (Ret w (.bool (decide (s1 = s)))) := by
  have hrl := World.block_lt_of_cell? _ _ h1
  have n1 : (w.alloc (.cells #[.string s1, .slice ka kn kc] 30)).cell? ⟨cb, 0, none⟩ = some (.string s) := (World.cell?_alloc_lt _ _ _ hrl).trans h1
  have hb : Below w.heap.size w (w.alloc (.cells #[.string s1, .slice ka kn kc] 30)) := (Below.refl _ _).alloc (Nat.le_refl _) _
  have HB := hid hb
  clear h1 hb
  by_cases e : s1 = s
  · subst e
    have hq : (s1.toList == s1.toList) = true := by simp
    rw [decide_eq_true rfl]
    go_enter Tryz.func47, Tryz.ntmps47
    go_wp2
    go_ret
    exact ⟨ret_bool (by simp), HB.out⟩
  · have hne : (s1.toList == s.toList) = false := by
      cases h : (s1.toList == s.toList)
      · rfl
      · exact absurd (bytes_ext (by simpa using h)) e
    rw [decide_eq_false e]
    go_enter Tryz.func47, Tryz.ntmps47
    go_wp2
    go_ret
    exact ⟨ret_bool (by simp [hne]), HB.out⟩

theorem idxP_first : ∀ {l : List ByteArray} {s : ByteArray} {q : Nat}, q < l.length → (∀ j, j < q → l.getD j ⟨#[]⟩ ≠ s) → l.getD q ⟨#[]⟩ = s → idxP l s = q
  | x :: l, s, 0, _, _, h => by
    unfold idxP
    rw [if_pos (by simpa using h)]
  | x :: l, s, q + 1, hq, h1, h => by
    have h0 := h1 0 (by omega)
    unfold idxP
    rw [if_neg (by simpa using h0), idxP_first (q := q) (by simpa using hq) (fun j hj => by have := h1 (j + 1) (by omega); simpa using this) (by simpa using h)]

set_option maxRecDepth 100000 in
set_option maxHeartbeats 2000000 in
theorem lib_IndexFuncN (v : Value) (xs : List Co) (s : ByteArray) (cb B : Nat) (w : World) (hv : RdCo w (· < B) v xs) (hB : B ≤ w.heap.size) (hl : xs.length ≤ 1048576) (hm : s ∈ namesL xs) (h1 : w.cell? ⟨cb, 0, none⟩ = some (.string s)) :
    Calls Tryz.prog 46 #[v, .func (.func 47) #[] #[.pointer (some ⟨cb, 0, none⟩)]] w (Ret w (.int .i64 (idxN xs s : Int))) := by
  have hrl := World.block_lt_of_cell? _ _ h1
  have HCL := hid (fun W (hW : Below w.heap.size w W) s1 ka kn kc => align_one s1 s ka kn kc cb W ((hW.cell (p := ⟨cb, 0, none⟩) hrl).trans h1))
  obtain ⟨cv, ⟨a, c, rfl, hc, hmx, hr⟩, hkid⟩ := hv
  have HKD : Hid (∀ q, q < xs.length → ∃ a k m, cv q = .slice a k m) := hid (fun q hq => by
    obtain ⟨a, c, e, -⟩ := hkid q hq
    exact ⟨a, _, c, e⟩)
  have HR := hid hr
  have hnl : (namesL xs).length = xs.length := by simp [namesL]
  have HIX : Hid (∀ q, q < xs.length → (∀ j, j < q → (xs.getD j Co.z).name ≠ s) → (xs.getD q Co.z).name = s → idxN xs s = q) := hid (fun q hq h2 h3 => idxP_first (by omega) (fun j hj => by rw [namesL_getD]; exact h2 j hj) (by rw [namesL_getD]; exact h3))
  have HEX : Hid (¬ ∀ j, j < xs.length → (xs.getD j Co.z).name ≠ s) := hid (fun h2 => by
    have h3 := idxN_lt hm
    exact h2 _ h3 (idxN_name hm))
  generalize idxN xs s = R at *
  clear hr hkid h1 hm hnl
  generalize hn : xs.length = n at *
  clear hn
  unfold maxLen at hmx
  go_enter Tryz.func46, Tryz.ntmps46
  go_wp2_with fail
  go_loopg [8] n (fun N i wr => ∃ q : Nat, q + N = n ∧ i = .int .i64 (q : Int) ∧ Hid (Below w.heap.size w wr) ∧ Hid (∀ j, j < q → (xs.getD j Co.z).name ≠ s))
  case atStart => exact ⟨0, by omega, rfl, hid (Below.refl _ _), hid (fun j h => absurd h (by omega))⟩
  case round =>
    obtain ⟨q, hq, rfl, HB, HALL⟩ := hrel
    by_cases hp : 0 < gk
    · obtain ⟨b, o, rfl, hb, hcell⟩ := HR.out (by omega)
      have hb' : b < B := hb
      have k0 : wr.cell? ⟨b, o + q * 2, none⟩ = some (.string (xs.getD q Co.z).name) := (HB.out.cell (p := ⟨b, o + q * 2, none⟩) (by show b < _; omega)).trans (hcell q (by omega) 0 (by omega))
      have k1 : wr.cell? ⟨b, o + q * 2 + 1, none⟩ = some (cv q) := (HB.out.cell (p := ⟨b, o + q * 2 + 1, none⟩) (by show b < _; omega)).trans (hcell q (by omega) 1 (by omega))
      obtain ⟨ka, kn, kc, hke⟩ := HKD.out q (by omega)
      rw [hke] at k1
      have HYQ := hid (HIX.out q (by omega) HALL.out)
      have HALL2 := hid (fun (h : (xs.getD q Co.z).name ≠ s) (j : Nat) (hj : j < q + 1) => (show (xs.getD j Co.z).name ≠ s from by
        rcases Nat.lt_or_ge j q with h3 | h3
        · exact HALL.out j h3
        · obtain rfl : j = q := by omega
          exact h))
      clear hcell hke
      generalize (xs.getD q Co.z).name = t at *
      have HC := hid (HCL.out wr HB.out t ka kn kc)
      have hwz := HB.out.size
      go_wp2_with fail
      with_reducible refine HC.out.mono ?_
      rintro e w1 ⟨rfl, hb1⟩
      have HB2 := hid (HB.out.trans (hb1.mono hwz))
      clear hb1 k0 k1
      by_cases e : t = s
      · rw [decide_eq_true e]
        go_wp2
        go_ret
        exact ⟨ret_int (by rw [HYQ.out e]), HB2.out⟩
      · rw [decide_eq_false e]
        have HAL := hid (HALL2.out e)
        clear e
        go_wp2
        go_roundg (gk - 1)
        case rel => exact ⟨q + 1, by omega, by go_num, HB2, HAL⟩
        case measure => omega
    · obtain rfl : q = n := by omega
      exact absurd HALL.out HEX.out

set_option maxHeartbeats 1000000 in
theorem lib_EqualNe (a1 a2 : Option Addr) (n c m d : Nat) (w : World) (h : n ≠ m) (h1 : n ≤ 1048576) (h2 : m ≤ 1048576) :
    Calls Tryz.prog 45 #[.slice a1 n c, .slice a2 m d] w fun e w' => e = .returned (.bool false) ∧ w' = w := by
  have hne : ((n : Int) != (m : Int)) = true := by simp; omega
  have hne2 : ¬ ((n : Int) = (m : Int)) := by omega
  go_enter Tryz.func45, Tryz.ntmps45
  go_wp2
  go_ret
  exact ⟨rfl, rfl⟩
/-- two rows of texts compared -/
theorem lib_EqualAny (v u : Value) (X Y : List ByteArray) (b1 b2 : Nat) (w : World) (hv : w.ownsRow b1 9 1 v X.length (X.map Value.string)) (hu : w.ownsRow b2 9 1 u Y.length (Y.map Value.string)) (h1 : X.length ≤ 1048576) (h2 : Y.length ≤ 1048576) :
    Calls Tryz.prog 45 #[v, u] w (Quiet w (.bool (decide (X = Y)))) := by
  obtain ⟨a1, c1, rfl⟩ := own_slice hv
  obtain ⟨a2, c2, rfl⟩ := own_slice hu
  by_cases hne : X.length = Y.length
  · by_cases h0 : X.length = 0
    · rw [h0]
      have h3 := lib_EqualS0 a1 a2 c1 Y.length c2 w (by omega)
      rw [decide_eq_true (show Y.length = 0 by omega)] at h3
      rw [decide_eq_true (show X = Y by rw [List.eq_nil_of_length_eq_zero h0, List.eq_nil_of_length_eq_zero (l := Y) (by omega)])]
      exact h3.mono fun e w' ⟨h4, h5⟩ => ⟨h4, 0, h5⟩
    · have hX : ∀ j, j < X.length → (w.cell? ⟨0, 0, none⟩ = w.cell? ⟨0, 0, none⟩) := fun _ _ => rfl
      rcases hv.2 with ⟨-, e⟩ | ⟨g1, p1, r1, e1, -⟩
      · omega
      rcases hu.2 with ⟨-, e⟩ | ⟨g2, p2, r2, e2, -⟩
      · omega
      obtain ⟨rfl, -, rfl⟩ := Value.slice.inj e1
      obtain ⟨rfl, -, rfl⟩ := Value.slice.inj e2
      have h3 := lib_EqualS g1 X.length c1 g2 Y.length c2 X Y w (Nat.le_refl _) (Nat.le_refl _) (by omega) (by omega)
        (fun j hj => by
          have h := hv.cellAt j (by rw [Nat.mul_one]; exact hj)
          rw [Nat.zero_add, h, smap_get hj]
          rfl)
        (fun j hj => by
          have h := hu.cellAt j (by rw [Nat.mul_one]; exact hj)
          rw [Nat.zero_add, h, smap_get hj]
          rfl)
      rw [List.take_length, List.take_length] at h3
      exact h3.mono fun e w' ⟨h4, k, h5⟩ => ⟨h4, k, h5⟩
  · rw [decide_eq_false (fun e => hne (by rw [e]))]
    exact (lib_EqualNe a1 a2 X.length c1 Y.length c2 w hne h1 h2).mono fun e w' ⟨h4, h5⟩ => ⟨h4, 0, h5⟩

def intsV (R : List Nat) : List Value := R.map fun x => .int .i64 ((x : Nat) : Int)
theorem info_intE : (Tryz.prog.info? 3).map (fun i => (i.zero, i.size, i.bytes)) = some (some (.int .i64 0), 1, 8) := by kernel_rfl
def AlignP (w : World) (xs ys : List Co) (e : Ending) (w' : World) : Prop :=
  Below w.heap.size w w' ∧ ((¬ Aligns xs ys ∧ e = .returned (.tuple #[.slice none 0 0, .bool false])) ∨
    (Aligns xs ys ∧ ∃ a c, e = .returned (.tuple #[.slice a xs.length c, .bool true]) ∧ w'.ownsRow w.heap.size 3 1 (.slice a xs.length c) xs.length (intsV (alignL xs ys))))
theorem align_succ {xs ys : List Co} {q : Nat} (h : q < xs.length) : (alignL xs ys).take (q + 1) = (alignL xs ys).take q ++ [idxN ys (xs.getD q Co.z).name] := by
  have h2 : q < (alignL xs ys).length := by rw [alignL_len]; exact h
  rw [List.take_succ_eq_append_getElem h2]
  have h3 := alignL_at (b := ys) h
  have : (alignL xs ys).getD q 0 = (alignL xs ys)[q] := by simp [List.getD, h2]
  rw [← h3, this]

set_option maxRecDepth 100000 in
set_option maxHeartbeats 4000000 in
theorem copies_Align (i1 i2 : Int) (n1 n2 : ByteArray) (v u : Value) (xs ys : List Co) (B : Nat) (w : World) (hv : RdCo w (· < B) v xs) (hu : RdCo w (· < B) u ys) (hB : B ≤ w.heap.size) (hlx : xs.length ≤ 1048576) (hly : ys.length ≤ 1048576) :
    Calls Tryz.prog 15 #[.agg #[.int .i64 i1, .string n1, v], .agg #[.int .i64 i2, .string n2, u]] w (AlignP w xs ys) := by
  have HN1 := hid (fun W (hW : Below w.heap.size w W) => copies_Names i1 n1 v xs B W (hv.keep fun p (hp : p.block < B) => hW.cell (p := p) (by omega)) (Nat.le_trans hB hW.size) hlx)
  have HN2 := hid (fun W (hW : Below w.heap.size w W) => copies_Names i2 n2 u ys B W (hu.keep fun p (hp : p.block < B) => hW.cell (p := p) (by omega)) (Nat.le_trans hB hW.size) hly)
  have HIX := hid (fun W (hW : Below w.heap.size w W) s cb (hs : s ∈ namesL ys) (hc : W.cell? ⟨cb, 0, none⟩ = some (.string s)) => lib_IndexFuncN u ys s cb B W (hu.keep fun p (hp : p.block < B) => hW.cell (p := p) (by omega)) (Nat.le_trans hB hW.size) hly hs hc)
  have HNX : Hid ((namesL xs).length = xs.length) := hid (by simp [namesL])
  have HNY : Hid ((namesL ys).length = ys.length) := hid (by simp [namesL])
  have HAS := hid (fun q (h : q < xs.length) => align_succ (ys := ys) h)
  have HNM := hid (fun (ha : Aligns xs ys) q (h : q < xs.length) => ha.2.2.mem_iff.1 (name_mem h))
  have HAL := hid (alignL_len xs ys)
  have HEQ : Hid (sortL (namesL xs) = sortL (namesL ys) ↔ (namesL xs).Perm (namesL ys)) := hid sortL_eq
  have HLX := hid (sortL_len (namesL xs))
  have HLY := hid (sortL_len (namesL ys))
  have HIL : Hid (∀ q, idxN ys (xs.getD q Co.z).name ≤ 1048576) := hid (fun q => by
    have : ∀ (l : List ByteArray) (s : ByteArray), idxP l s ≤ l.length := by
      intro l s
      induction l with
      | nil => simp [idxP]
      | cons x l ih => unfold idxP; split <;> simp; omega
    have h2 := this (namesL ys) (xs.getD q Co.z).name
    have h3 : (namesL ys).length = ys.length := by simp [namesL]
    unfold idxN
    omega)
  obtain ⟨cv, ⟨a, c, rfl, hc, hm, hr⟩, hkid⟩ := hv
  obtain ⟨a2, c2, rfl⟩ : ∃ a2 c2, u = .slice a2 ys.length c2 := by
    obtain ⟨_, ⟨a2, c2, e, -⟩, -⟩ := hu
    exact ⟨a2, c2, e⟩
  have HKD : Hid (∀ q, q < xs.length → ∃ a k m, cv q = .slice a k m) := hid (fun q hq => by
    obtain ⟨a, c, e, -⟩ := hkid q hq
    exact ⟨a, _, c, e⟩)
  have HR := hid hr
  obtain ⟨i0, hi0, hz0, hz1, hz2⟩ := info_parts info_intE
  clear hr hkid hu
  have hx1 := (BoxN.new w #[.int .i64 i1, .string n1, .slice a xs.length c] 24).alloc (.cells #[.int .i64 i2, .string n2, .slice a2 ys.length c2] 24)
  have hx2 := BoxN.new (w.alloc (.cells #[.int .i64 i1, .string n1, .slice a xs.length c] 24)) #[.int .i64 i2, .string n2, .slice a2 ys.length c2] 24
  rw [World.size_alloc] at hx2
  have HB0 : Hid (Below w.heap.size w ((w.alloc (.cells #[.int .i64 i1, .string n1, .slice a xs.length c] 24)).alloc (.cells #[.int .i64 i2, .string n2, .slice a2 ys.length c2] 24))) := hid (((Below.refl _ w).alloc (Nat.le_refl _) _).alloc (by simp) _)
  have hz : ((w.alloc (.cells #[.int .i64 i1, .string n1, .slice a xs.length c] 24)).alloc (.cells #[.int .i64 i2, .string n2, .slice a2 ys.length c2] 24)).heap.size = w.heap.size + 2 := by simp
  unfold AlignP
  generalize hn : xs.length = n at *
  have HN := hid hn
  clear hn
  generalize hn' : ys.length = m at *
  have HM := hid hn'
  clear hn'
  unfold maxLen at hm
  have c0 := hx1.cell 0 rfl
  have c1 := hx1.cell 1 rfl
  have c2' := hx1.cell 2 rfl
  have HX1 := hid hx1
  have HX2 := hid hx2
  clear hx1 hx2
  go_enter Tryz.func15, Tryz.ntmps15
  generalize hLA : Code.loop _ = LA
  go_wp2_with fail
  with_reducible refine (HN1.out _ HB0.out).mono ?_
  clear c0 c1 c2'
  generalize (w.alloc (.cells #[.int .i64 i1, .string n1, .slice a n c] 24)).alloc (.cells #[.int .i64 i2, .string n2, .slice a2 m c2] 24) = W0 at *
  rintro e w1 ⟨xa, xc, rfl, hown1, hb1⟩
  rw [HNX.out] at hown1 ⊢
  have HX11 := hid (HX1.out.below hb1 HX1.out.lt)
  have HX21 := hid (HX2.out.below hb1 HX2.out.lt)
  have HB1 := hid (HB0.out.trans (hb1.mono HB0.out.size))
  have HOX := hid hown1
  have d0 := HX21.out.cell 0 rfl
  have d1 := HX21.out.cell 1 rfl
  have d2 := HX21.out.cell 2 rfl
  have hz1' := hb1.size
  clear hown1 hb1
  go_wp2_with fail
  with_reducible refine (HN2.out _ HB1.out).mono ?_
  rintro e w2 ⟨ya, yc, rfl, hown2, hb2⟩
  rw [HNY.out] at hown2 ⊢
  have HX12 := hid (HX11.out.below hb2 HX11.out.lt)
  have HX22 := hid (HX21.out.below hb2 HX21.out.lt)
  have HB2 := hid (HB1.out.trans (hb2.mono HB1.out.size))
  have HOX2 := hid (own_later HOX.out hb2)
  have HEC := hid (fun (hk1 : True) => lib_EqualAny (.slice xa n xc) (.slice ya m yc) (sortL (namesL xs)) (sortL (namesL ys)) W0.heap.size w1.heap.size w2 (by rw [HLX.out, HNX.out]; exact own_later HOX.out hb2) (by rw [HLY.out, HNY.out]; exact hown2) (by rw [HLX.out, HNX.out]; exact hlx) (by rw [HLY.out, HNY.out]; exact hly))
  have hz2' := hb2.size
  clear d0 d1 d2 hown2 hb2
  by_cases ho : (namesL xs).Nodup
  · by_cases hp : (namesL ys).Nodup
    · rw [decide_eq_true ho, decide_eq_true hp]
      go_wp2_with fail
      with_reducible refine (HEC.out trivial).mono ?_
      rintro e w3 ⟨rfl, k3, rfl⟩
      have HB3 := hid (below_drewN (n := k3) HB2.out)
      by_cases hq : (namesL xs).Perm (namesL ys)
      · have ha : Aligns xs ys := ⟨ho, hp, hq⟩
        have HA := hid ha
        rw [decide_eq_true (HEQ.out.2 hq)]
        have c2' := HX12.out.cell 2 rfl
        clear ho hp hq ha
        go_wp2_with fail
        clear c2'
        subst hLA
        have HX32 := hid (HX22.out.drewN k3)
        have hz3 : (w2.drewN k3).heap.size = w2.heap.size := rfl
        have HBB := hid (Below.refl (w2.drewN k3).heap.size (w2.drewN k3))
        have hxbl := HX32.out.lt
        generalize w2.drewN k3 = w3 at *
        go_loopg [10, 38] n (fun N v i wr => ∃ q : Nat, q + N = n ∧ i = .int .i64 (q : Int) ∧ Hid (Below w3.heap.size w3 wr ∧ wr.ownsRow w3.heap.size 3 1 v ((alignL xs ys).take q).length (intsV ((alignL xs ys).take q))))
        case atStart => exact ⟨0, by omega, rfl, hid ⟨HBB.out, World.ownsRow_nil _ _ _ _⟩⟩
        case round =>
          obtain ⟨q, hq, rfl, HST⟩ := hrel
          obtain ⟨a3, c3, rfl⟩ := own_slice HST.out.2
          have hql : ((alignL xs ys).take q).length = q := by rw [List.length_take, HAL.out]; omega
          have HQL := hid hql
          rw [hql] at HST ⊢
          clear hql
          by_cases hp : 0 < gk
          · obtain ⟨b, o, rfl, hb, hcell⟩ := HR.out (by omega)
            have hb' : b < B := hb
            have hwz := HST.out.1.size
            have HBW := hid (HB3.out.trans (HST.out.1.mono HB3.out.size))
            have k0 : wr.cell? ⟨b, o + q * 2, none⟩ = some (.string (xs.getD q Co.z).name) := (HBW.out.cell (p := ⟨b, o + q * 2, none⟩) (by show b < _; omega)).trans (hcell q (by omega) 0 (by omega))
            have k1 : wr.cell? ⟨b, o + q * 2 + 1, none⟩ = some (cv q) := (HBW.out.cell (p := ⟨b, o + q * 2 + 1, none⟩) (by show b < _; omega)).trans (hcell q (by omega) 1 (by omega))
            obtain ⟨ka, kn, kc, hke⟩ := HKD.out q (by omega)
            rw [hke] at k1
            clear hke hcell
            have HS1 := hid (HAS.out q (by omega))
            have HMQ := hid (HNM.out HA.out q (by omega))
            have hil := HIL.out q
            generalize (xs.getD q Co.z).name = s at *
            generalize hcur : (alignL xs ys).take q = cur at *
            clear hcur
            have HBA := hid (HBW.out.alloc HBW.out.size (.cells #[.string s, .slice ka kn kc] 30))
            have HB3A := hid (HST.out.1.alloc hwz (.cells #[.string s, .slice ka kn kc] 30))
            have HOA := hid (HST.out.2.alloc (.cells #[.string s, .slice ka kn kc] 30))
            have hza : (wr.alloc (.cells #[.string s, .slice ka kn kc] 30)).heap.size = wr.heap.size + 1 := by simp
            have hcb := BoxN.new wr #[.string s, .slice ka kn kc] 30
            have HCI := hid (HIX.out _ HBA.out s wr.heap.size HMQ.out (hcb.cell 0 rfl))
            have hxa := (HX32.out.below HST.out.1 hxbl).alloc (.cells #[.string s, .slice ka kn kc] 30)
            have x2 := hxa.cell 2 rfl
            clear hcb hxa
            generalize idxN ys s = ix at *
            go_wp2_with fail
            with_reducible refine HCI.out.mono ?_
            clear x2 k0 k1 HCI
            generalize wr.alloc (.cells #[.string s, .slice ka kn kc] 30) = W4 at *
            rintro e w5 ⟨rfl, hb5⟩
            have HB5 := hid (HBA.out.trans (hb5.mono HBA.out.size))
            have HB35 := hid (HB3A.out.trans (hb5.mono (by omega)))
            have HO5 := hid (own_later HOA.out hb5)
            have hz5 := hb5.size
            clear hb5
            go_wp2_with (at_builtin; refine wpList_append_form _ rfl _ _ 25 25 rfl w3.heap.size 3 3 i0 (.int .i64 0) 1 8 Tryz.underlying25 Tryz.underlying25 hi0 hz0 hz1 hz2 rfl (by decide) (.slice a3 q c3) q (intsV cur) rfl (HO5.out.alloc _) (some ⟨_, 0, none⟩) 1 1 [.int .i64 (ix : Int)] rfl rfl (fun _ => ⟨_, rfl, cell_one_at _ _ (by simp)⟩) (by intro u hu; simp at hu; subst hu; rfl) (by omega) (by unfold maxLen; omega) (by omega) (by simp; omega) ?_; intro p9 cap9 w9 hown9 hg9 hat9 hlt9; have HOWN9 := hid hown9; have HG9 := hid ((World.grownBy_alloc _ _ _).trans hg9); have HAT9 := hid hat9; clear hown9 hg9 hat9)
            have HB9 := hid (HB35.out.grown HG9.out HB35.out.size (fun k hk => (HO5.out.lt k hk).1))
            go_roundg (gk - 1)
            case rel => exact ⟨q + 1, by omega, by go_num, hid ⟨HB9.out, by rw [HS1.out, List.length_append, List.length_singleton, HQL.out]; have := HOWN9.out; rw [show intsV cur ++ [.int .i64 (ix : Int)] = intsV (cur ++ [ix]) by simp [intsV]] at this; exact this⟩⟩
            case measure => omega
          · obtain rfl : q = n := by omega
            have HTA : Hid ((alignL xs ys).take q = alignL xs ys) := hid (by rw [← HAL.out, List.take_length])
            rw [HTA.out] at HST
            go_wp2
            go_ret2
            exact ⟨HB3.out.trans (HST.out.1.mono HB3.out.size), .inr ⟨HA.out, a3, c3, rfl, own_base HST.out.2 HB3.out.size⟩⟩
      · have ha : ¬ Aligns xs ys := fun h => hq h.2.2
        rw [decide_eq_false (fun e => hq (HEQ.out.1 e))]
        go_wp2
        go_ret2
        exact ⟨HB3.out, .inl ⟨ha, rfl⟩⟩
    · have ha : ¬ Aligns xs ys := fun h => hp h.2.1
      rw [decide_eq_true ho, decide_eq_false hp]
      go_wp2
      go_ret2
      exact ⟨HB2.out, .inl ⟨ha, rfl⟩⟩
  · have ha : ¬ Aligns xs ys := fun h => ho h.1
    rw [decide_eq_false ho]
    go_wp2
    go_ret2
    exact ⟨HB2.out, .inl ⟨ha, rfl⟩⟩

end Go.Proofs.YtfcccldofaleoaaGreatDoor

namespace Go.Proofs
open Go.Shelf
def Tryz.layItoa_ren : Go.Shelf.Ren := ⟨fun | 171 => 68 | 243 => 100 | 246 => 128 | 283 => 155 | 284 => 156 | 285 => 157 | 286 => 158 | 129 => 114 | 317 => 173 | 318 => 174 | 319 => 175 | 320 => 176 | 337 => 187 | 338 => 188 | n => n, fun | 3 => 3 | 9 => 9 | 2 => 2 | 4 => 4 | 171 => 185 | 0 => 0 | 53 => 156 | 37 => 63 | 5 => 5 | 173 => 187 | 212 => 206 | 51 => 133 | 20 => 20 | 213 => 207 | 46 => 119 | 232 => 218 | 233 => 219 | n => n, fun | 17 => 3 | 18 => 4 | 19 => 5 | n => n⟩
theorem Tryz.layItoa : Go.Proofs.Lays.n171 Tryz.prog Tryz.layItoa_ren := {
  mixed := by kernel_rfl
  f129 := Tryz.func114.trans (congrArg some (by kernel_rfl))
  f171 := Tryz.func68.trans (congrArg some (by kernel_rfl))
  f243 := Tryz.func100.trans (congrArg some (by kernel_rfl))
  f246 := Tryz.func128.trans (congrArg some (by kernel_rfl))
  f283 := Tryz.func155.trans (congrArg some (by kernel_rfl))
  f284 := Tryz.func156.trans (congrArg some (by kernel_rfl))
  f285 := Tryz.func157.trans (congrArg some (by kernel_rfl))
  f286 := Tryz.func158.trans (congrArg some (by kernel_rfl))
  f317 := Tryz.func173.trans (congrArg some (by kernel_rfl))
  f318 := Tryz.func174.trans (congrArg some (by kernel_rfl))
  f319 := Tryz.func175.trans (congrArg some (by kernel_rfl))
  f320 := Tryz.func176.trans (congrArg some (by kernel_rfl))
  f337 := Tryz.func187.trans (congrArg some (by kernel_rfl))
  f338 := Tryz.func188.trans (congrArg some (by kernel_rfl))
  t0 := Tryz.underlying0
  a0 := Tryz.isAgg0
  z0 := Tryz.sizeOf0
  v0 := Tryz.zeroValue0
  t2 := Tryz.underlying2
  a2 := Tryz.isAgg2
  z2 := Tryz.sizeOf2
  v2 := Tryz.zeroValue2
  t3 := Tryz.underlying3
  a3 := Tryz.isAgg3
  z3 := Tryz.sizeOf3
  v3 := Tryz.zeroValue3
  t4 := Tryz.underlying4
  a4 := Tryz.isAgg4
  z4 := Tryz.sizeOf4
  v4 := Tryz.zeroValue4
  t5 := Tryz.underlying5
  a5 := Tryz.isAgg5
  z5 := Tryz.sizeOf5
  v5 := Tryz.zeroValue5
  t9 := Tryz.underlying9
  a9 := Tryz.isAgg9
  z9 := Tryz.sizeOf9
  v9 := Tryz.zeroValue9
  t20 := Tryz.underlying20
  a20 := Tryz.isAgg20
  z20 := Tryz.sizeOf20
  v20 := Tryz.zeroValue20
  t37 := Tryz.underlying63
  a37 := Tryz.isAgg63
  z37 := Tryz.sizeOf63
  v37 := Tryz.zeroValue63
  t46 := Tryz.underlying119
  a46 := Tryz.isAgg119
  z46 := Tryz.sizeOf119
  v46 := Tryz.zeroValue119
  t51 := Tryz.underlying133
  a51 := Tryz.isAgg133
  z51 := Tryz.sizeOf133
  v51 := Tryz.zeroValue133
  t53 := Tryz.underlying156
  a53 := Tryz.isAgg156
  z53 := Tryz.sizeOf156
  v53 := Tryz.zeroValue156
  t171 := Tryz.underlying185
  a171 := Tryz.isAgg185
  z171 := Tryz.sizeOf185
  v171 := Tryz.zeroValue185
  t173 := Tryz.underlying187
  a173 := Tryz.isAgg187
  z173 := Tryz.sizeOf187
  v173 := Tryz.zeroValue187
  t212 := Tryz.underlying206
  a212 := Tryz.isAgg206
  z212 := Tryz.sizeOf206
  v212 := Tryz.zeroValue206
  t213 := Tryz.underlying207
  a213 := Tryz.isAgg207
  z213 := Tryz.sizeOf207
  t232 := Tryz.underlying218
  a232 := Tryz.isAgg218
  z232 := Tryz.sizeOf218
  v232 := Tryz.zeroValue218
  t233 := Tryz.underlying219
  a233 := Tryz.isAgg219
  z233 := Tryz.sizeOf219
  v233 := Tryz.zeroValue219
  g17 := by kernel_rfl
  g18 := by kernel_rfl
  g19 := by kernel_rfl }
end Go.Proofs

namespace Go.Proofs
open Go.Shelf Go.RowKit
def Tryz.laysBe_ren : Go.Shelf.Ren := ⟨fun | 166 => 78 | 169 => 79 | 240 => 116 | 276 => 137 | n => n, fun | 0 => 0 | 3 => 3 | 4 => 4 | 5 => 5 | 9 => 9 | 20 => 20 | 37 => 63 | 70 => 124 | 72 => 126 | 75 => 128 | 80 => 131 | 127 => 157 | 164 => 172 | n => n, fun | n => n⟩
theorem Tryz.laysBe166 : Go.Proofs.Lays.n166 Tryz.prog Tryz.laysBe_ren := {
  mixed := by kernel_rfl
  f166 := Tryz.func78.trans (congrArg some (by kernel_rfl))
  f240 := Tryz.func116.trans (congrArg some (by kernel_rfl))
  f276 := Tryz.func137.trans (congrArg some (by kernel_rfl))
  t0 := Tryz.underlying0
  a0 := Tryz.isAgg0
  z0 := Tryz.sizeOf0
  v0 := Tryz.zeroValue0
  t3 := Tryz.underlying3
  a3 := Tryz.isAgg3
  z3 := Tryz.sizeOf3
  v3 := Tryz.zeroValue3
  t4 := Tryz.underlying4
  a4 := Tryz.isAgg4
  z4 := Tryz.sizeOf4
  v4 := Tryz.zeroValue4
  t9 := Tryz.underlying9
  a9 := Tryz.isAgg9
  z9 := Tryz.sizeOf9
  v9 := Tryz.zeroValue9
  t20 := Tryz.underlying20
  a20 := Tryz.isAgg20
  z20 := Tryz.sizeOf20
  v20 := Tryz.zeroValue20
  t37 := Tryz.underlying63
  a37 := Tryz.isAgg63
  z37 := Tryz.sizeOf63
  v37 := Tryz.zeroValue63
  t70 := Tryz.underlying124
  a70 := Tryz.isAgg124
  z70 := Tryz.sizeOf124
  v70 := Tryz.zeroValue124
  t72 := Tryz.underlying126
  a72 := Tryz.isAgg126
  z72 := Tryz.sizeOf126
  v72 := Tryz.zeroValue126
  t75 := Tryz.underlying128
  a75 := Tryz.isAgg128
  z75 := Tryz.sizeOf128
  v75 := Tryz.zeroValue128
  t164 := Tryz.underlying172
  a164 := Tryz.isAgg172
  z164 := Tryz.sizeOf172
  v164 := Tryz.zeroValue172 }
theorem Tryz.laysBe169 : Go.Proofs.Lays.n169 Tryz.prog Tryz.laysBe_ren := {
  mixed := by kernel_rfl
  f169 := Tryz.func79.trans (congrArg some (by kernel_rfl))
  t0 := Tryz.underlying0
  a0 := Tryz.isAgg0
  z0 := Tryz.sizeOf0
  v0 := Tryz.zeroValue0
  t3 := Tryz.underlying3
  a3 := Tryz.isAgg3
  z3 := Tryz.sizeOf3
  v3 := Tryz.zeroValue3
  t9 := Tryz.underlying9
  a9 := Tryz.isAgg9
  z9 := Tryz.sizeOf9
  v9 := Tryz.zeroValue9
  t37 := Tryz.underlying63
  a37 := Tryz.isAgg63
  z37 := Tryz.sizeOf63
  v37 := Tryz.zeroValue63
  t70 := Tryz.underlying124
  a70 := Tryz.isAgg124
  z70 := Tryz.sizeOf124
  v70 := Tryz.zeroValue124
  t72 := Tryz.underlying126
  a72 := Tryz.isAgg126
  z72 := Tryz.sizeOf126
  v72 := Tryz.zeroValue126
  t127 := Tryz.underlying157
  a127 := Tryz.isAgg157
  z127 := Tryz.sizeOf157
  v127 := Tryz.zeroValue157 }
theorem Tryz.Builder_Extra_Be : Builder.Extra Tryz.prog Tryz.laysBe_ren := {
  sizeBuilder := by kernel_rfl
  liesBuilder := by kernel_rfl
  t5 := Tryz.underlying5
  a5 := Tryz.isAgg5
  z5 := Tryz.sizeOf5
  v5 := Tryz.zeroValue5
  infoByte := by kernel_rfl
  cellsByte := by kernel_rfl
  sizeByte := by kernel_rfl
  neB5 := by decide }
theorem Tryz.Builder_WriteString_k (B b : Nat) (bs : List Value) (s : ByteArray) (w : World) (h : Lib.IsBuilderF 126 5 B b bs w) (hlen : bs.length + s.size ≤ 140737488355328) (hBw : B ≤ w.heap.size) :
    Calls Tryz.prog 78 #[.pointer (some ⟨b, 0, none⟩), .string s] w fun e w' => e = .returned (.tuple #[.int .i64 s.size, .nilIface]) ∧ (Lib.BuilderAtF 126 5 B b (.pointer (some ⟨b, 0, none⟩)) (bs ++ Lib.strCells s) w' ∧ Below B w w' ∧ Lib.OthersKept 5 (some b) w w') := Any.Builder_WriteString_k Tryz.laysBe166 Tryz.Builder_Extra_Be B b bs s w h hlen hBw
theorem Tryz.Builder_String_any_k (B b : Nat) (l : List UInt8) (w : World) (h : Lib.IsBuilderF 126 5 B b (Lib.byteCells l) w) (hBw : B ≤ w.heap.size) :
    Calls Tryz.prog 79 #[.pointer (some ⟨b, 0, none⟩)] w fun e w' => e = .returned (.string ⟨l.toArray⟩) ∧ (Lib.IsBuilderF 126 5 B b (Lib.byteCells l) w' ∧ Below B w w' ∧ Lib.OthersKept 5 (some b) w w') := Any.Builder_String_any_k Tryz.laysBe169 Tryz.Builder_Extra_Be B b l w h hBw
end Go.Proofs
