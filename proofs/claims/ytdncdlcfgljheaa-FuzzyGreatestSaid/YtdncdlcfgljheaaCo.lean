/- Contracts of Common, Union and Tokens of two texts, the program's and the reference's. -/
import Derived.Test.YtdncdlcfgljheaaBi
namespace Go.Proofs.Ytdncdlcfgljheaa
open Go.RowKit

set_option maxHeartbeats 2000000 in
theorem ref_Common (va vb : Value) (xs ys : List ByteArray) (B : Nat) (w : World) (ha : RdS w B va xs) (hb : RdS w B vb ys) (hxa : Asc xs) (hya : Asc ys) (hlen : xs.length ≤ 1099511627776) :
    Calls Try.prog 34 #[va, vb] w (Quiet w (.int .i64 ((commonL xs ys : Nat) : Int))) := by
  have HSA := hid (ref_IsSet va xs B w ha)
  have HSB := hid (fun m => ref_IsSet vb ys B (w.drewN m) (Rd.drewN hb m))
  rw [Asc.isSet hxa] at HSA
  rw [Asc.isSet hya] at HSB
  have HH := hid (fun s m => ref_Has vb ys s B (w.drewN m) (Rd.drewN hb m))
  obtain ⟨b2, c2, rfl, -⟩ := hb
  obtain ⟨a, c, rfl, hc, hm, hx⟩ := ha
  have HT := hid (fun k h => @common_take xs ys k h)
  have HL : Hid (commonL xs ys = commonL (xs.take xs.length) ys) := hid (by rw [List.take_length])
  have HLE := hid (fun k => Nat.le_trans (commonL_le (xs.take k) ys) (List.length_take_le k xs))
  generalize commonL xs ys = R at *
  generalize hn : xs.length = n at *
  have HX := hid hx
  clear hn hx
  unfold maxLen at hm
  go_enter Try.func34, Try.ntmps34
  go_wp2_with fail
  with_reducible refine HSA.out.mono ?_
  rintro e w1 ⟨rfl, m1, rfl⟩
  go_wp2_with fail
  with_reducible refine (HSB.out _).mono ?_
  rintro e w2 ⟨rfl, m2, rfl⟩
  go_wp2
  go_loopw [5, 18] (fun v i w' => ∃ k : Nat, k ≤ n ∧ i = .int .i64 (k : Int) ∧ v = .int .i64 ((commonL (xs.take k) ys : Nat) : Int) ∧ ∃ m, w' = w.drewN m) (fun _ i _ => n - (intOf i).toNat)
  case atStart => exact ⟨0, by omega, rfl, by simp [commonL], _, by first | rfl | exact World.drewN_drewN _ _ _⟩
  case round =>
    obtain ⟨k, hk, rfl, rfl, m, rfl⟩ := hrel
    by_cases hlt : k < n
    · obtain ⟨b, o, rfl, hb, hcell⟩ := HX.out (by omega)
      have h1 : (w.drewN m).cell? ⟨b, o + k, none⟩ = some (.string (xs.getD k ⟨#[]⟩)) := hcell k hlt
      have HN := hid (HT.out k hlt)
      have hle := HLE.out k
      have HW : Hid (wrap64 ((k : Int) + 1) = (k : Int) + 1) := hid (by unfold wrap64; omega)
      clear hcell
      generalize xs.getD k ⟨#[]⟩ = x at *
      generalize commonL (xs.take k) ys = C at *
      go_wp2_with fail
      with_reducible refine (HH.out x _).mono ?_
      rintro e w1 ⟨rfl, m1', rfl⟩
      cases hh : hasL ys x
      · rw [hh] at HN
        go_wp2
        go_roundw
        case rel => exact ⟨k + 1, by omega, by go_num, by rw [HN.out]; rfl, _, by first | rfl | exact World.drewN_drewN _ _ _⟩
        case measure =>
          simp [intOf, HW.out]
          omega
      · rw [hh] at HN
        go_wp2
        go_roundw
        case rel => exact ⟨k + 1, by omega, by go_num, by rw [HN.out.trans (if_pos (by first | rfl | trivial))]; go_num, _, by first | rfl | exact World.drewN_drewN _ _ _⟩
        case measure =>
          simp [intOf, HW.out]
          omega
    · obtain rfl : k = n := by omega
      rw [← HL.out]
      go_wp2
      go_ret
      exact ⟨rfl, _, rfl⟩

set_option maxHeartbeats 2000000 in
theorem ref_Union (va vb : Value) (xs ys : List ByteArray) (B : Nat) (w : World) (ha : RdS w B va xs) (hb : RdS w B vb ys) (hxa : Asc xs) (hya : Asc ys) (hlen : xs.length ≤ 1099511627776) (hleny : ys.length ≤ 1099511627776) :
    Calls Try.prog 35 #[va, vb] w (Quiet w (.int .i64 ((xs.length + ys.length - commonL xs ys : Nat) : Int))) := by
  have HSA := hid (ref_IsSet va xs B w ha)
  have HSB := hid (fun m => ref_IsSet vb ys B (w.drewN m) (Rd.drewN hb m))
  rw [Asc.isSet hxa] at HSA
  rw [Asc.isSet hya] at HSB
  have HC := hid (fun m => ref_Common va vb xs ys B (w.drewN m) (Rd.drewN ha m) (Rd.drewN hb m) hxa hya hlen)
  have hle := commonL_le xs ys
  obtain ⟨b2, c2, rfl, -⟩ := hb
  obtain ⟨a, c, rfl, -⟩ := ha
  generalize commonL xs ys = R at *
  generalize xs.length = n at *
  generalize ys.length = n2 at *
  go_enter Try.func35, Try.ntmps35
  go_wp2_with fail
  with_reducible refine HSA.out.mono ?_
  rintro e w1 ⟨rfl, m1, rfl⟩
  go_wp2_with fail
  with_reducible refine (HSB.out _).mono ?_
  rintro e w2 ⟨rfl, m2, rfl⟩
  go_wp2_with fail
  with_reducible refine (HC.out (m1 + m2)).mono ?_
  rintro e w3 ⟨rfl, m3, rfl⟩
  go_wp2
  go_ret
  exact ⟨ret_int (a := (n : Int) + n2 - R) (by omega), m1 + m2 + m3, by first | rfl | exact World.drewN_drewN _ _ _⟩

set_option maxHeartbeats 2000000 in
theorem dist_Common (va vb : Value) (xs ys : List ByteArray) (B : Nat) (w : World) (ha : RdS w B va xs) (hb : RdS w B vb ys) (hxa : Asc xs) (hya : Asc ys) (hlen : xs.length ≤ 1099511627776) (hleny : ys.length ≤ 1099511627776) :
    Calls Try.prog 45 #[va, vb] w (Quiet w (.int .i64 ((commonL xs ys : Nat) : Int))) := by
  have HSA := hid (text_IsSet va xs B w ha)
  have HSB := hid (fun m => text_IsSet vb ys B (w.drewN m) (Rd.drewN hb m))
  rw [Asc.isSet hxa] at HSA
  rw [Asc.isSet hya] at HSB
  have HH := hid (fun s m => lib_BinarySearch vb ys s B (w.drewN m) (Rd.drewN hb m) hya hleny)
  obtain ⟨b2, c2, rfl, -⟩ := hb
  obtain ⟨a, c, rfl, hc, hm, hx⟩ := ha
  have HT := hid (fun k h => @common_take xs ys k h)
  have HL : Hid (commonL xs ys = commonL (xs.take xs.length) ys) := hid (by rw [List.take_length])
  have HLE := hid (fun k => Nat.le_trans (commonL_le (xs.take k) ys) (List.length_take_le k xs))
  generalize commonL xs ys = R at *
  generalize hn : xs.length = n at *
  have HX := hid hx
  clear hn hx
  unfold maxLen at hm
  go_enter Try.func45, Try.ntmps45
  go_wp2_with fail
  with_reducible refine HSA.out.mono ?_
  rintro e w1 ⟨rfl, m1, rfl⟩
  go_wp2_with fail
  with_reducible refine (HSB.out _).mono ?_
  rintro e w2 ⟨rfl, m2, rfl⟩
  go_wp2
  go_loopw [5, 20] (fun v i w' => ∃ k : Nat, k ≤ n ∧ i = .int .i64 (k : Int) ∧ v = .int .i64 ((commonL (xs.take k) ys : Nat) : Int) ∧ ∃ m, w' = w.drewN m) (fun _ i _ => n - (intOf i).toNat)
  case atStart => exact ⟨0, by omega, rfl, by simp [commonL], _, by first | rfl | exact World.drewN_drewN _ _ _⟩
  case round =>
    obtain ⟨k, hk, rfl, rfl, m, rfl⟩ := hrel
    by_cases hlt : k < n
    · obtain ⟨b, o, rfl, hb, hcell⟩ := HX.out (by omega)
      have h1 : (w.drewN m).cell? ⟨b, o + k, none⟩ = some (.string (xs.getD k ⟨#[]⟩)) := hcell k hlt
      have HN := hid (HT.out k hlt)
      have hle := HLE.out k
      have HW : Hid (wrap64 ((k : Int) + 1) = (k : Int) + 1) := hid (by unfold wrap64; omega)
      clear hcell
      generalize xs.getD k ⟨#[]⟩ = x at *
      generalize commonL (xs.take k) ys = C at *
      go_wp2_with fail
      with_reducible refine (HH.out x _).mono ?_
      rintro e w1 ⟨p1, rfl, rfl⟩
      cases hh : hasL ys x
      · rw [hh] at HN
        go_wp2
        go_roundw
        case rel => exact ⟨k + 1, by omega, by go_num, by rw [HN.out]; rfl, _, by first | rfl | exact World.drewN_drewN _ _ _⟩
        case measure =>
          simp [intOf, HW.out]
          omega
      · rw [hh] at HN
        go_wp2
        go_roundw
        case rel => exact ⟨k + 1, by omega, by go_num, by rw [HN.out.trans (if_pos (by first | rfl | trivial))]; go_num, _, by first | rfl | exact World.drewN_drewN _ _ _⟩
        case measure =>
          simp [intOf, HW.out]
          omega
    · obtain rfl : k = n := by omega
      rw [← HL.out]
      go_wp2
      go_ret
      exact ⟨rfl, _, rfl⟩

set_option maxHeartbeats 2000000 in
theorem dist_Union (va vb : Value) (xs ys : List ByteArray) (B : Nat) (w : World) (ha : RdS w B va xs) (hb : RdS w B vb ys) (hxa : Asc xs) (hya : Asc ys) (hlen : xs.length ≤ 1099511627776) (hleny : ys.length ≤ 1099511627776) :
    Calls Try.prog 46 #[va, vb] w (Quiet w (.int .i64 ((xs.length + ys.length - commonL xs ys : Nat) : Int))) := by
  have HSA := hid (text_IsSet va xs B w ha)
  have HSB := hid (fun m => text_IsSet vb ys B (w.drewN m) (Rd.drewN hb m))
  rw [Asc.isSet hxa] at HSA
  rw [Asc.isSet hya] at HSB
  have HC := hid (fun m => dist_Common va vb xs ys B (w.drewN m) (Rd.drewN ha m) (Rd.drewN hb m) hxa hya hlen hleny)
  have hle := commonL_le xs ys
  obtain ⟨b2, c2, rfl, -⟩ := hb
  obtain ⟨a, c, rfl, -⟩ := ha
  generalize commonL xs ys = R at *
  generalize xs.length = n at *
  generalize ys.length = n2 at *
  go_enter Try.func46, Try.ntmps46
  go_wp2_with fail
  with_reducible refine HSA.out.mono ?_
  rintro e w1 ⟨rfl, m1, rfl⟩
  go_wp2_with fail
  with_reducible refine (HSB.out _).mono ?_
  rintro e w2 ⟨rfl, m2, rfl⟩
  go_wp2_with fail
  with_reducible refine (HC.out (m1 + m2)).mono ?_
  rintro e w3 ⟨rfl, m3, rfl⟩
  go_wp2
  go_ret
  exact ⟨ret_int (a := (n : Int) + n2 - R) (by omega), m1 + m2 + m3, by first | rfl | exact World.drewN_drewN _ _ _⟩

theorem rds_drewN {w : World} {B : Nat} {v : Value} {xs : List ByteArray} (h : RdS w B v xs) (k : Nat) : RdS (w.drewN k) B v xs := Rd.drewN (f := strF xs) h k
/-- the set of the tokens of a text -/
def tokSet (s : ByteArray) : List ByteArray := setOfL (toksB (foldB s))
theorem toks_len (s : ByteArray) : (toksB (foldB s)).length ≤ s.size + 1 := by
  have := (runT_le (byteS (foldB s)) ((foldB s).size + 1)).2
  unfold toksB tokSpans
  rw [List.length_map, ← foldB_size s]
  exact this
def TokP (w : World) (X Y : List ByteArray) (e : Ending) (w' : World) : Prop :=
  e = .returned (.tuple #[.int .i64 ((commonL X Y : Nat) : Int), .int .i64 ((X.length + Y.length - commonL X Y : Nat) : Int)]) ∧ Below w.heap.size w w'

set_option maxHeartbeats 2000000 in
theorem ref_TokensOf (s t : ByteArray) (w : World) (hs : s.size ≤ 1073741824) (ht : t.size ≤ 1073741824) :
    Calls Try.prog 23 #[.string s, .string t] w (TokP w (tokSet s) (tokSet t)) := by
  have HT1 := hid (fun W => ref_Tokens s W hs)
  have HT2 := hid (fun W => ref_Tokens t W ht)
  have hl1 := toks_len s
  have hl2 := toks_len t
  have HA1 : Hid (Asc (tokSet s)) := hid (setOfL_asc _)
  have HA2 : Hid (Asc (tokSet t)) := hid (setOfL_asc _)
  have HS1 : Hid (∀ (v : Value) (B : Nat) (W : World), RdS W B v (toksB (foldB s)) → B ≤ W.heap.size → Calls Try.prog 15 #[v] W (GivesS W (tokSet s))) := hid (fun v B W h1 h2 => ref_Set v _ B W h1 h2 (by omega))
  have HS2 : Hid (∀ (v : Value) (B : Nat) (W : World), RdS W B v (toksB (foldB t)) → B ≤ W.heap.size → Calls Try.prog 15 #[v] W (GivesS W (tokSet t))) := hid (fun v B W h1 h2 => ref_Set v _ B W h1 h2 (by omega))
  have hk1 : (tokSet s).length ≤ (toksB (foldB s)).length := setOfL_len _
  have hk2 : (tokSet t).length ≤ (toksB (foldB t)).length := setOfL_len _
  generalize tokSet s = X at *
  generalize tokSet t = Y at *
  generalize toksB (foldB s) = xs at *
  generalize toksB (foldB t) = ys at *
  go_enter Try.func23, Try.ntmps23
  go_wp2_with fail
  with_reducible refine (HT1.out _).mono ?_
  rintro e w1 ⟨a1, c1, rfl, hown1, hb1⟩
  go_wp2_with fail
  with_reducible refine (HS1.out _ _ w1 (rdS_of_own hown1) (Nat.le_refl _)).mono ?_
  rintro e w2 ⟨a2, c2, rfl, hown2, hb2⟩
  go_wp2_with fail
  with_reducible refine (HT2.out _).mono ?_
  rintro e w3 ⟨a3, c3, rfl, hown3, hb3⟩
  go_wp2_with fail
  with_reducible refine (HS2.out _ _ w3 (rdS_of_own hown3) (Nat.le_refl _)).mono ?_
  rintro e w4 ⟨a4, c4, rfl, hown4, hb4⟩
  have z1 := hb1.size
  have z2 := hb2.size
  have z3 := hb3.size
  have z4 := hb4.size
  have hb34 : Below w2.heap.size w2 w4 := hb3.trans (hb4.mono z3)
  have HX : Hid (RdS w4 w4.heap.size (.slice a2 X.length c2) X) := hid (Rd.more (Rd.below (rdS_of_own hown2) hb34 (Nat.le_refl _)) (by omega))
  have HY : Hid (RdS w4 w4.heap.size (.slice a4 Y.length c4) Y) := hid (rdS_of_own hown4)
  have HB : Hid (Below w.heap.size w w4) := hid (hb1.trans ((hb2.mono z1).trans (hb34.mono (by omega))))
  clear hown1 hown2 hown3 hown4 hb1 hb2 hb3 hb4 hb34 HS1 HS2 HT1 HT2
  go_wp2_with fail
  with_reducible refine (ref_Common _ _ X Y w4.heap.size w4 HX.out HY.out HA1.out HA2.out (by omega)).mono ?_
  rintro e w5 ⟨rfl, m1, rfl⟩
  go_wp2_with fail
  with_reducible refine (ref_Union _ _ X Y w4.heap.size (w4.drewN m1) (rds_drewN HX.out m1) (rds_drewN HY.out m1) HA1.out HA2.out (by omega) (by omega)).mono ?_
  rintro e w6 ⟨rfl, m2, rfl⟩
  go_wp2
  go_ret2
  exact ⟨rfl, below_drewN HB.out⟩

set_option maxHeartbeats 2000000 in
theorem dist_TokensOf (s t : ByteArray) (w : World) (hs : s.size ≤ 1073741824) (ht : t.size ≤ 1073741824) :
    Calls Try.prog 37 #[.string s, .string t] w (TokP w (tokSet s) (tokSet t)) := by
  have HT1 := hid (fun W => text_Tokens s W hs)
  have HT2 := hid (fun W => text_Tokens t W ht)
  have hl1 := toks_len s
  have hl2 := toks_len t
  have HA1 : Hid (Asc (tokSet s)) := hid (setOfL_asc _)
  have HA2 : Hid (Asc (tokSet t)) := hid (setOfL_asc _)
  have HS1 : Hid (∀ (v : Value) (B : Nat) (W : World), RdS W B v (toksB (foldB s)) → B ≤ W.heap.size → Calls Try.prog 43 #[v] W (GivesS W (tokSet s))) := hid (fun v B W h1 h2 => text_Set v _ B W h1 h2 (by omega))
  have HS2 : Hid (∀ (v : Value) (B : Nat) (W : World), RdS W B v (toksB (foldB t)) → B ≤ W.heap.size → Calls Try.prog 43 #[v] W (GivesS W (tokSet t))) := hid (fun v B W h1 h2 => text_Set v _ B W h1 h2 (by omega))
  have hk1 : (tokSet s).length ≤ (toksB (foldB s)).length := setOfL_len _
  have hk2 : (tokSet t).length ≤ (toksB (foldB t)).length := setOfL_len _
  generalize tokSet s = X at *
  generalize tokSet t = Y at *
  generalize toksB (foldB s) = xs at *
  generalize toksB (foldB t) = ys at *
  go_enter Try.func37, Try.ntmps37
  go_wp2_with fail
  with_reducible refine (HT1.out _).mono ?_
  rintro e w1 ⟨a1, c1, rfl, hown1, hb1⟩
  go_wp2_with fail
  with_reducible refine (HS1.out _ _ w1 (rdS_of_own hown1) (Nat.le_refl _)).mono ?_
  rintro e w2 ⟨a2, c2, rfl, hown2, hb2⟩
  go_wp2_with fail
  with_reducible refine (HT2.out _).mono ?_
  rintro e w3 ⟨a3, c3, rfl, hown3, hb3⟩
  go_wp2_with fail
  with_reducible refine (HS2.out _ _ w3 (rdS_of_own hown3) (Nat.le_refl _)).mono ?_
  rintro e w4 ⟨a4, c4, rfl, hown4, hb4⟩
  have z1 := hb1.size
  have z2 := hb2.size
  have z3 := hb3.size
  have z4 := hb4.size
  have hb34 : Below w2.heap.size w2 w4 := hb3.trans (hb4.mono z3)
  have HX : Hid (RdS w4 w4.heap.size (.slice a2 X.length c2) X) := hid (Rd.more (Rd.below (rdS_of_own hown2) hb34 (Nat.le_refl _)) (by omega))
  have HY : Hid (RdS w4 w4.heap.size (.slice a4 Y.length c4) Y) := hid (rdS_of_own hown4)
  have HB : Hid (Below w.heap.size w w4) := hid (hb1.trans ((hb2.mono z1).trans (hb34.mono (by omega))))
  clear hown1 hown2 hown3 hown4 hb1 hb2 hb3 hb4 hb34 HS1 HS2 HT1 HT2
  go_wp2_with fail
  with_reducible refine (dist_Common _ _ X Y w4.heap.size w4 HX.out HY.out HA1.out HA2.out (by omega) (by omega)).mono ?_
  rintro e w5 ⟨rfl, m1, rfl⟩
  go_wp2_with fail
  with_reducible refine (dist_Union _ _ X Y w4.heap.size (w4.drewN m1) (rds_drewN HX.out m1) (rds_drewN HY.out m1) HA1.out HA2.out (by omega) (by omega)).mono ?_
  rintro e w6 ⟨rfl, m2, rfl⟩
  go_wp2
  go_ret2
  exact ⟨rfl, below_drewN HB.out⟩

end Go.Proofs.Ytdncdlcfgljheaa
