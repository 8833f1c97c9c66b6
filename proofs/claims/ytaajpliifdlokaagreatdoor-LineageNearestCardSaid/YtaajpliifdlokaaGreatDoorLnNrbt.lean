/- Contract of ref38.project. Plain: what the reference's Find comes upon is found, by no more operations. -/
import Derived.Deep.Cut
import Derived.Test.YtaajpliifdlokaaGreatDoorLnNraq
import Derived.Test.YtaajpliifdlokaaGreatDoorLnNrad
import Derived.Test.YtaajpliifdlokaaGreatDoorLnNrbs
import Derived.Test.YtaajpliifdlokaaGreatDoorLnNrba
set_option linter.unusedVariables false
set_option linter.unusedSimpArgs false
namespace Go.Proofs.YtaajpliifdlokaaGreatDoor
open Go.RowKit
def RProjP (w : World) (a b : List Co) (e : Ending) (w' : World) : Prop :=
  ∃ (v : Value) (s ok : Bool), e = .returned (.tuple #[v, .bool s, .bool ok]) ∧ Below w.heap.size w w' ∧
    ((ok = false ∧ projOf a b = none) ∨ (ok = true ∧ (projOf a b = if s = true then some [] else some [opProj (fromL a b)]) ∧ ∃ x y, v = .slice x b.length y ∧ RdKs w' (News w w') v ((fromL a b).map fun (k : Nat) => (k : Int))))
theorem idx_hit {a : List Co} {s : ByteArray} {k : Nat} (hk : k < a.length) (h : (a.getD k Co.z).name = s) (hd : ∀ j, j < k → (a.getD j Co.z).name ≠ s) : s ∈ namesL a ∧ idxN a s = k := by
  rcases fst_idx (a := a) (s := s) (r := (k : Int)) (Or.inr ⟨k, rfl, hk, decide_eq_true h, fun j hj => decide_eq_false (hd j hj)⟩) with ⟨h1, -⟩ | ⟨h1, h2⟩
  · omega
  · exact ⟨h1, by omega⟩
theorem idx_miss {a : List Co} {s : ByteArray} (hd : ∀ j, j < a.length → (a.getD j Co.z).name ≠ s) : s ∉ namesL a := by
  intro hm
  have h1 := idxN_lt hm
  exact hd _ h1 (idxN_name hm)
set_option maxRecDepth 100000 in
set_option maxHeartbeats 4000000 in
theorem ref38_project (ia ib : Int) (na nb : ByteArray) (u v : Value) (a b : List Co) (B : Nat) (w : World) (hu : RdCo w (· < B) u a) (hv : RdCo w (· < B) v b) (hB : B ≤ w.heap.size) (hla : a.length ≤ 64) (hlb : b.length ≤ 64) :
  Calls Tryz.prog 67 #[.agg #[.int .i64 ia, .string na, u], .agg #[.int .i64 ib, .string nb, v]] w (RProjP w a b) := by
 obtain ⟨i0, hi0, hz0, hz1, hz2⟩ := info_parts info_int0
 have HU := hid (fun W (hW : Below w.heap.size w W) => hu.keep (w' := W) fun p (hp : p.block < B) => hW.cell (p := p) (by omega))
 obtain ⟨cu, ⟨ua, uc, rfl, huc, hum, -⟩, -⟩ := hu
 obtain ⟨cv, ⟨va, vc, rfl, hvc, hvm, hvr⟩, hcv⟩ := hv
 have HV := hid hvr
 have HCV := hid (fun q (hq : q < b.length) => (by obtain ⟨a, c, e, -⟩ := hcv q hq; exact ⟨_, _, _, e⟩ : ∃ a n c, cv q = .slice a n c))
 have HHIT := hid (fun s k hk h hd => @idx_hit a s k hk h hd)
 have HMISS := hid (fun s hd => @idx_miss a s hd)
 have HFL := hid (from_len a b)
 have HSN := hid (fun q (hq : q < b.length) => @from_snoc a b q hq)
 have HPN := hid (fun q (hq : q < b.length) => @plain_snoc a b q hq)
 have HMI := hid (fun q (hq : q < b.length) h => @proj_miss a b q hq h)
 have HHV := hid (@proj_have a b)
 have HP0 : Hid (plainTo a b 0 = decide (a.length = b.length)) := hid (by simp [plainTo])
 clear hvr hcv
 unfold maxLen at hum hvm
 generalize hal : a.length = La at *
 generalize hbl : b.length = Lb at *
 have HAL := hid hal
 have HBL := hid hbl
 clear hal hbl
 have hx0 := (BoxN.new w #[.int .i64 ia, .string na, .slice ua La uc] 51).alloc (.cells #[.int .i64 ib, .string nb, .slice va Lb vc] 51)
 have hy0 := BoxN.new (w.alloc (.cells #[.int .i64 ia, .string na, .slice ua La uc] 51)) #[.int .i64 ib, .string nb, .slice va Lb vc] 51
 rw [World.size_alloc] at hy0
 have HX0 := hid hx0
 have x2 := hx0.cell 2 rfl
 have y2 := hy0.cell 2 rfl
 have HB0 := hid (((Below.refl w.heap.size w).alloc (Nat.le_refl _) (.cells #[.int .i64 ia, .string na, .slice ua La uc] 51)).alloc (by simp) (.cells #[.int .i64 ib, .string nb, .slice va Lb vc] 51))
 have hz0' : ((w.alloc (.cells #[.int .i64 ia, .string na, .slice ua La uc] 51)).alloc (.cells #[.int .i64 ib, .string nb, .slice va Lb vc] 51)).heap.size = w.heap.size + 2 := by simp
 have hdl : ((La : Int) == (Lb : Int)) = decide (La = Lb) := by
  by_cases h : La = Lb
  ·subst h; simp
  ·rw [decide_eq_false h]; simp; omega
 clear hx0 hy0
 go_enter Tryz.func67, Tryz.ntmps67
 generalize hLA : Code.loop _ = LA
 go_wp2_with fail
 generalize (w.alloc (.cells #[.int .i64 ia, .string na, .slice ua La uc] 51)).alloc (.cells #[.int .i64 ib, .string nb, .slice va Lb vc] 51) = W0 at *
 have hz0a := Nat.le_of_eq hz0'
 have hz0b := Nat.le_of_eq hz0'.symm
 clear hz0' x2 y2
 subst hLA
 go_loopg [7, 8, 22] Lb (fun N y pl i wr => ∃ (q : Nat), i = .int .i64 (q : Int) ∧ pl = .bool (plainTo a b q) ∧ q + N = Lb ∧ w.heap.size + 2 ≤ wr.heap.size ∧ Hid (Below w.heap.size w wr) ∧ Hid (BoxN wr w.heap.size 51 #[.int .i64 ia, .string na, .slice ua La uc]) ∧
  Hid (wr.ownsRow (w.heap.size + 2) 3 1 y q (iv ((fromL a b).take q))) ∧ Hid (∀ j, j < q → (b.getD j Co.z).name ∈ namesL a))
 case atStart => exact ⟨0, rfl, by rw [HP0.out], by omega, by omega, HB0, HX0, hid (World.ownsRow_nil _ _ _ _), hid (fun j h => absurd h (by omega))⟩
 case round =>
  obtain ⟨q, rfl, rfl, hq, hlw, HB, HX, HO, HALL⟩ := hrel
  obtain ⟨wo, rfl⟩ : ∃ wo, wo = wr := ⟨wr, rfl⟩
  obtain ⟨go, rfl⟩ : ∃ go, go = gk := ⟨gk, rfl⟩
  obtain ⟨ya, yc, rfl⟩ := own_slice HO.out
  by_cases hp : 0 < go
  ·have hqL : q < Lb := by omega
   obtain ⟨ba, oa, rfl, hba, hcella⟩ := HV.out (by omega)
   have hba' : ba < B := hba
   have k1 : wo.cell? ⟨ba, oa + q * 2, none⟩ = some (.string (b.getD q Co.z).name) := (HB.out.cell (p := ⟨ba, oa + q * 2, none⟩) (by show ba < w.heap.size; omega)).trans (hcella q hqL 0 (by omega))
   have k2 : wo.cell? ⟨ba, oa + q * 2 + 1, none⟩ = some (cv q) := (HB.out.cell (p := ⟨ba, oa + q * 2 + 1, none⟩) (by show ba < w.heap.size; omega)).trans (hcella q hqL 1 (by omega))
   obtain ⟨ca, cn, ck, hcq⟩ := HCV.out q hqL
   rw [hcq] at k2
   have HSNq := hid (HSN.out q hqL)
   have HPNq := hid (HPN.out q hqL)
   have HMIq := hid (HMI.out q hqL)
   have HA1 : Hid ((b.getD q Co.z).name ∈ namesL a → ∀ j, j < q + 1 → (b.getD j Co.z).name ∈ namesL a) := hid (fun h j hj => by
    rcases Nat.lt_or_ge j q with h1 | h1
    ·exact HALL.out j h1
    ·obtain rfl : j = q := by omega
     exact h)
   clear hcella hcq
   generalize (b.getD q Co.z).name = s at *
   generalize hpl : plainTo a b q = pl at *
   clear hpl
   have HX2 := hid (HX.out.alloc (.cells #[.string s, .slice ca cn ck] 55))
   have HC2 := hid (BoxN.new wo #[.string s, .slice ca cn ck] 55)
   have HB2 := hid (HB.out.alloc (by omega) (.cells #[.string s, .slice ca cn ck] 55))
   have HO2 := hid (HO.out.alloc (.cells #[.string s, .slice ca cn ck] 55))
   have hz2' : (wo.alloc (.cells #[.string s, .slice ca cn ck] 55)).heap.size = wo.heap.size + 1 := by simp
   generalize hLB : Code.loop _ = LB
   go_wp2_with fail
   generalize wo.alloc (.cells #[.string s, .slice ca cn ck] 55) = W2 at *
   have hz2a := Nat.le_of_eq hz2'
   have hz2b := Nat.le_of_eq hz2'.symm
   clear hz2' k1 k2
   subst hLB
   go_loopg [11] La (fun N i wr => ∃ (k : Nat), i = .int .i64 (k : Int) ∧ k + N = La ∧ Hid (Below W2.heap.size W2 wr) ∧ Hid (∀ j, j < k → (a.getD j Co.z).name ≠ s))
   case atStart => exact ⟨0, rfl, by omega, hid (Below.refl _ _), hid (fun j h => absurd h (by omega))⟩
   case round =>
    obtain ⟨kk, rfl, hk, HG, HD⟩ := hrel
    have hwz := HG.out.size
    have HX3 := hid (HX2.out.below HG.out HX2.out.lt)
    have HC3 := hid (HC2.out.below HG.out HC2.out.lt)
    have HBW := hid (HB2.out.trans (HG.out.mono (by omega)))
    have x2 := fun p : LaterOf wr => p.cell (HX3.out.cell 2 rfl)
    have c0 := fun p : LaterOf wr => p.cell (HC3.out.cell 0 rfl)
    by_cases hp2 : 0 < gk
    ·have hkL : kk < La := by omega
     have hki : (kk : Int) < (La : Int) := by omega
     have hkd : decide ((kk : Int) < (La : Int)) = true := decide_eq_true hki
     obtain ⟨b5, o5, c5, y5, e5, hb5, -, n1, -⟩ := co_at (HU.out wr HBW.out) (q := kk) (by rw [HAL.out]; exact hkL)
     rw [HAL.out] at e5
     obtain ⟨rfl, -, rfl⟩ := Value.slice.inj e5
     have n0 := fun p : LaterOf wr => p.cell n1
     have HHITk := hid (fun h => HHIT.out s kk hkL h HD.out)
     have HD2 : Hid ((a.getD kk Co.z).name ≠ s → ∀ j, j < kk + 1 → (a.getD j Co.z).name ≠ s) := hid (fun h j hj => by
      rcases Nat.lt_or_ge j kk with h1 | h1
      ·exact HD.out j h1
      ·obtain rfl : j = kk := by omega
       exact h)
     clear e5 n1
     generalize (a.getD kk Co.z).name = t at *
     by_cases ht : t = s
     ·subst ht
      have htt : (t.toList == t.toList) = true := by simp
      obtain ⟨hyes, hidx⟩ := HHITk.out rfl
      rw [hidx] at HSNq HPNq
      go_upto_region 7 with fail
      refine wp_region_later (by kernel_rfl) (by kernel_rfl) ?_
      repeat (first | go_big_quiet_step (fail) | quiet_step (fail))
      refine wpQuiet_nil ?_
      intro _ hw'
      obtain ⟨p5, hw''⟩ := hw'
      subst hw''
      have hb5' := p5.hb
      generalize p5.W = w5 at *
      have HG5 := hid (HG.out.trans (hb5'.mono hwz))
      have HX5 := hid (HX3.out.below hb5' HX3.out.lt)
      clear hb5' p5 x2 c0 n0
      have hke : ((kk : Int) == (La : Int)) = false := beq_false_of_ne (by omega)
      have hked : decide ((kk : Int) = (La : Int)) = false := decide_eq_false (by omega)
      have hkne : ¬ (kk : Int) = (La : Int) := by omega
      have x2 := HX5.out.cell 2 rfl
      have hw5 := HG5.out.size
      have HN6 := hid (BoxN.new w5 #[.int .i64 (kk : Int)] 3)
      have HO6 := hid ((own_later HO2.out HG5.out).alloc (.cells #[.int .i64 (kk : Int)] 3))
      have HB6 := hid ((HB2.out.trans (HG5.out.mono (by omega))).alloc (by omega) (.cells #[.int .i64 (kk : Int)] 3))
      have HX6 := hid (HX5.out.alloc (.cells #[.int .i64 (kk : Int)] 3))
      cases pl with
      | false =>
       have HP2 : Hid (plainTo a b (q + 1) = false) := hid (by rw [HPNq.out]; rfl)
       go_wp2_with (at_builtin; refine wpList_append_form _ rfl _ _ 22 22 rfl (w.heap.size + 2) 3 3 i0 (.int .i64 0) 1 8 Tryz.underlying22 Tryz.underlying22 hi0 hz0 hz1 hz2 rfl (by decide) (.slice ya q yc) q _ rfl HO6.out (some ⟨_, 0, none⟩) 1 1 [.int .i64 (kk : Int)] rfl rfl (fun _ => ⟨_, rfl, World.news_of_block HN6.out⟩) (by intro u hu; simp at hu; subst hu; rfl) (by omega) (by unfold maxLen; omega) (by omega) (by simp; omega) ?_; intro p8 cap8 w8 hown8 hg8 hat8 hlt8; have HG8 := hid hg8; have HOWN8 := hid hown8; clear hown8 hg8 hat8)
       have hgs := HG8.out.size
       go_wp2
       go_roundg (go - 1)
       case rel =>
        refine ⟨q + 1, by go_num, by rw [HP2.out], by omega, by simp at hgs; omega, hid (HB6.out.grown HG8.out (by simp; omega) (fun k hk => by have := (HO.out.lt k hk).1; omega)), hid (HX6.out.grown HG8.out (fun e => by have := (HO.out.lt _ e.symm).1; omega)), hid ?_, hid (HA1.out hyes)⟩
        rw [HSNq.out, show iv ((fromL a b).take q ++ [kk]) = iv ((fromL a b).take q) ++ [.int .i64 (kk : Int)] by simp [iv]]
        exact HOWN8.out
       case measure => omega
      | true =>
       by_cases hkq : kk = q
       ·have HP2 : Hid (plainTo a b (q + 1) = true) := hid (by rw [HPNq.out, decide_eq_true hkq]; rfl)
        have hkqb : ((kk : Int) == (q : Int)) = true := by rw [hkq]; simp
        clear hkq
        go_wp2_with (at_builtin; refine wpList_append_form _ rfl _ _ 22 22 rfl (w.heap.size + 2) 3 3 i0 (.int .i64 0) 1 8 Tryz.underlying22 Tryz.underlying22 hi0 hz0 hz1 hz2 rfl (by decide) (.slice ya q yc) q _ rfl HO6.out (some ⟨_, 0, none⟩) 1 1 [.int .i64 (kk : Int)] rfl rfl (fun _ => ⟨_, rfl, World.news_of_block HN6.out⟩) (by intro u hu; simp at hu; subst hu; rfl) (by omega) (by unfold maxLen; omega) (by omega) (by simp; omega) ?_; intro p8 cap8 w8 hown8 hg8 hat8 hlt8; have HG8 := hid hg8; have HOWN8 := hid hown8; clear hown8 hg8 hat8)
        have hgs := HG8.out.size
        go_wp2
        go_roundg (go - 1)
        case rel =>
         refine ⟨q + 1, by go_num, by rw [HP2.out], by omega, by simp at hgs; omega, hid (HB6.out.grown HG8.out (by simp; omega) (fun k hk => by have := (HO.out.lt k hk).1; omega)), hid (HX6.out.grown HG8.out (fun e => by have := (HO.out.lt _ e.symm).1; omega)), hid ?_, hid (HA1.out hyes)⟩
         rw [HSNq.out, show iv ((fromL a b).take q ++ [kk]) = iv ((fromL a b).take q) ++ [.int .i64 (kk : Int)] by simp [iv]]
         exact HOWN8.out
        case measure => omega
       ·have HP2 : Hid (plainTo a b (q + 1) = false) := hid (by rw [HPNq.out, decide_eq_false hkq]; rfl)
        have hkqb : ((kk : Int) == (q : Int)) = false := by simp; omega
        clear hkq
        go_wp2_with (at_builtin; refine wpList_append_form _ rfl _ _ 22 22 rfl (w.heap.size + 2) 3 3 i0 (.int .i64 0) 1 8 Tryz.underlying22 Tryz.underlying22 hi0 hz0 hz1 hz2 rfl (by decide) (.slice ya q yc) q _ rfl HO6.out (some ⟨_, 0, none⟩) 1 1 [.int .i64 (kk : Int)] rfl rfl (fun _ => ⟨_, rfl, World.news_of_block HN6.out⟩) (by intro u hu; simp at hu; subst hu; rfl) (by omega) (by unfold maxLen; omega) (by omega) (by simp; omega) ?_; intro p8 cap8 w8 hown8 hg8 hat8 hlt8; have HG8 := hid hg8; have HOWN8 := hid hown8; clear hown8 hg8 hat8)
        have hgs := HG8.out.size
        go_wp2
        go_roundg (go - 1)
        case rel =>
         refine ⟨q + 1, by go_num, by rw [HP2.out], by omega, by simp at hgs; omega, hid (HB6.out.grown HG8.out (by simp; omega) (fun k hk => by have := (HO.out.lt k hk).1; omega)), hid (HX6.out.grown HG8.out (fun e => by have := (HO.out.lt _ e.symm).1; omega)), hid ?_, hid (HA1.out hyes)⟩
         rw [HSNq.out, show iv ((fromL a b).take q ++ [kk]) = iv ((fromL a b).take q) ++ [.int .i64 (kk : Int)] by simp [iv]]
         exact HOWN8.out
        case measure => omega
     ·have htt : (t.toList == s.toList) = false := by
       cases h : (t.toList == s.toList)
       ·rfl
       ·exact absurd (bytes_ext (eq_of_beq h)) ht
      go_upto_region 7 with fail
      refine wp_region_later (by kernel_rfl) (by kernel_rfl) ?_
      repeat (first | go_big_quiet_step (fail) | quiet_step (fail))
      refine wpQuiet_nil ?_
      intro _ hw'
      obtain ⟨p5, hw''⟩ := hw'
      subst hw''
      have hb5' := p5.hb
      generalize p5.W = w5 at *
      have HG5 := hid (HG.out.trans (hb5'.mono hwz))
      have HX5 := hid (HX3.out.below hb5' HX3.out.lt)
      clear hb5' p5 x2 c0 n0
      go_wp2
      go_roundg (gk - 1)
      case rel => exact ⟨kk + 1, by go_num, by omega, HG5, hid (HD2.out ht)⟩
      case measure => omega
    ·obtain rfl : gk = 0 := by omega
     obtain rfl : kk = La := by omega
     have hno := HMISS.out s HD.out
     have HNO := hid (HMIq.out hno)
     have hkd : decide ((kk : Int) < (kk : Int)) = false := decide_eq_false (by omega)
     have hkn : ¬ (kk : Int) < (kk : Int) := by omega
     have n0 : True := trivial
     go_upto_region 7 with fail
     refine wp_region_later (by kernel_rfl) (by kernel_rfl) ?_
     repeat (first | go_big_quiet_step (fail) | quiet_step (fail))
     refine wpQuiet_nil ?_
     intro _ hw'
     obtain ⟨p5, hw''⟩ := hw'
     subst hw''
     have hb5' := p5.hb
     generalize p5.W = w5 at *
     have HG5 := hid (HG.out.trans (hb5'.mono hwz))
     have HX5 := hid (HX3.out.below hb5' HX3.out.lt)
     clear hb5' p5 x2 c0 n0
     have x2 := HX5.out.cell 2 rfl
     have HBF := hid (HB2.out.trans (HG5.out.mono (by omega)))
     go_wp2
     refine bodyPost_ret (v := .tuple #[.slice none 0 0, .bool false, .bool false]) (by simp [results, Tryz.results67, go_sem]) rfl ?_
     exact ⟨_, _, _, rfl, HBF.out, Or.inl ⟨rfl, HNO.out⟩⟩
  ·obtain rfl : go = 0 := by omega
   obtain rfl : q = Lb := by omega
   have hpj := HHV.out HALL.out
   have hown := HO.out
   rw [List.take_of_length_le (by rw [HFL.out]; omega)] at hown
   have HOW := hid hown
   have HPJ := hid hpj
   clear hown HPN HSN HMI hpj
   generalize plainTo a b q = pl at *
   go_wp2
   refine bodyPost_ret (v := .tuple #[.slice ya q yc, .bool pl, .bool true]) (by simp [results, Tryz.results67, go_sem]) rfl ?_
   refine ⟨_, _, _, rfl, HB.out, Or.inr ⟨rfl, HPJ.out, ya, yc, by rw [HBL.out], ?_⟩⟩
   have h1 := HOW.out
   have h3 := HFL.out
   rw [← h3] at h1
   have h2 := ks_own h1
   rw [h3] at h2
   exact InK.more h2 fun b hb => ⟨by have := hb.1; omega, hb.2⟩
end Go.Proofs.YtaajpliifdlokaaGreatDoor

namespace Go.Proofs.YtaajpliifdlokaaGreatDoor
open Go.RowKit
theorem find_weak {a b : List Co} {f p d s : List Po} (hf : f ∈ filtersL a) (hp : projOf a b = some p) (hd : d = [] ∨ d = [opDist]) (hs : s = [] ∨ ∃ k, k < b.length ∧ s = [opSort k])
    (hr : runL (runL (runL a (f ++ p)) d) s = b) (hn : rowsC (runL (runL a (f ++ p)) d) = rowsC b) : ∃ l, findL a b = some l ∧ l.length ≤ (f ++ p).length + d.length + s.length := by
  have he : d ++ s ∈ endsL b.length := by
    unfold endsL sortsL
    rcases hd with rfl | rfl <;> rcases hs with rfl | ⟨k, hk, rfl⟩
    · simp
    · simp
      exact Or.inl ⟨k, hk, rfl⟩
    · simp
    · simp
      exact ⟨k, hk, rfl⟩
  have h1 := filt_short hf
  have h2 := proj_short hp
  have h3 := ends_short he
  have hr2 : runL a (f ++ p ++ (d ++ s)) = b := by rw [runL_append, runL_append]; exact hr
  have hn2 : rowsC b ≤ rowsC (runL a (f ++ p)) := by
    rcases hd with rfl | rfl
    · exact Nat.le_of_eq hn.symm
    · rw [← hn]
      exact rows_do (o := opDist) (by decide)
  obtain ⟨l, hl, hle⟩ := find_done hf hp he hr2 (by rw [List.length_append, List.length_append]; omega) hn2
  refine ⟨l, hl, ?_⟩
  rw [List.length_append, List.length_append] at hle
  rw [List.length_append]
  rw [List.length_append] at hle
  omega
theorem run_take {xs : List Co} {os : List Po} {i : Nat} (hi : i < os.length) : runL xs (os.take (i + 1)) = doL (runL xs (os.take i)) (os.getD i Po.z) := by
  rw [List.take_succ_eq_append_getElem hi, runL_append]
  simp [runL, List.getD, hi]
theorem can_take : ∀ {os : List Po} {xs : List Co} {i : Nat}, canRun xs os = true → i < os.length → canL (runL xs (os.take i)).length (os.getD i Po.z) = true
  | [], _, _, _, h => by simp at h
  | o :: os, xs, 0, hc, _ => by
    unfold canRun at hc
    simp only [Bool.and_eq_true] at hc
    exact hc.1
  | o :: os, xs, i + 1, hc, h => by
    unfold canRun at hc
    simp only [Bool.and_eq_true] at hc
    exact can_take (xs := doL xs o) hc.2 (by simpa using h)
theorem tab_take {id : Int} {nm : ByteArray} : ∀ {os : List Po} {xs : List Co} {i : Nat}, TabV ⟨id, nm, xs⟩ → canRun xs os = true → i ≤ os.length → TabV ⟨id, nm, runL xs (os.take i)⟩
  | _, xs, 0, h, _, _ => by simpa [runL] using h
  | [], _, i + 1, _, _, hi => by simp at hi
  | o :: os, xs, i + 1, h, hc, hi => by
    unfold canRun at hc
    simp only [Bool.and_eq_true] at hc
    exact tab_take (xs := doL xs o) (do_valid h hc.1) hc.2 (by simpa using hi)
theorem text_take {a : List Co} {n : Nat} (hc : ColsV a n) {f : List Po} (hf : f ∈ filtersL a) : ∀ o ∈ f, o.text.size ≤ 1048576 := by
  intro o ho
  rcases List.mem_cons.1 hf with rfl | h
  · cases ho
  · obtain ⟨k, hk, h⟩ := List.mem_flatMap.1 h
    rcases List.mem_cons.1 h with rfl | h
    · rw [List.mem_singleton.1 ho]; show (⟨#[]⟩ : ByteArray).size ≤ _; decide
    · obtain ⟨s, hs, rfl⟩ := List.mem_map.1 h
      rw [List.mem_singleton.1 ho]
      show s.size ≤ _
      have hkl : k < a.length := List.mem_range.1 hk
      have h1 := hc _ (getD_mem hkl Co.z)
      have h2 : s ∈ ((a.getD k Co.z).cells.filter fun x => !x.null).map Cl.text := setOfL_mem _ _ hs
      obtain ⟨c, hcm, rfl⟩ := List.mem_map.1 h2
      have h3 := (h1.2.2 c (List.mem_filter.1 hcm).1).2.1
      omega
theorem text_proj {a b : List Co} {p : List Po} (hp : projOf a b = some p) : ∀ o ∈ p, o.text.size ≤ 1048576 := by
  intro o ho
  rcases (proj_form hp).2 with ⟨rfl, -⟩ | rfl
  · cases ho
  · rw [List.mem_singleton.1 ho]; show (⟨#[]⟩ : ByteArray).size ≤ _; decide
theorem dist_len (xs : List Co) : (runL xs [opDist]).length = xs.length := names_len (names_run fun o ho => by rw [List.mem_singleton.1 ho]; decide)
end Go.Proofs.YtaajpliifdlokaaGreatDoor
