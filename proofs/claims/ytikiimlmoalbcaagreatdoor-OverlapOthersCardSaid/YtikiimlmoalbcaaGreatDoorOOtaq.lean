/- Contracts of slices.stableCmpFunc and SortStableFunc at numbers: the same numbers in some order. Plain: the first hits are found although little is read (chapters 19, 20). No program in sight. Plain: what a search over an index knows behind some lists; the first hits (chapters 19, 20). No program in sight. -/
import Derived.Test.YtikiimlmoalbcaaGreatDoorOOtap
import Derived.Test.YtikiimlmoalbcaaGreatDoorProg
import Derived.Test.YtikiimlmoalbcaaGreatDoorOOtaj
set_option linter.unusedVariables false
set_option linter.unusedSimpArgs false
namespace Go.Proofs.YtikiimlmoalbcaaGreatDoor
open Go.RowKit
set_option maxRecDepth 100000 in
set_option maxHeartbeats 8000000 in
theorem stable_N (xs : List Nat) (base b cap n xb : Nat) (w : World) (h : RowI w base b cap n xs) (hn : n ≤ 1048576) (hC : CmpQ xs b xb w) :
  Calls Tryz.prog 185 #[.slice (some ⟨b, 0, none⟩) n cap, .int .i64 (n : Int), .func (.func 154) #[] #[.pointer (some ⟨xb, 0, none⟩)]] w (PermP w base b cap n xs) := by
 have H := hid h
 have HC := hid hC
 have HINS := hid (fun ys a c W (hp : ys.Perm xs) (hb : BarZ w b W) (hr : RowI W base b cap n ys) (hac : a ≤ c) (hc : c ≤ n) => ins_sortN ys base b cap n a c xb W hr hac hc hn (hC.go hp hb))
 have HSYM := hid (fun ys a m c W (hp : ys.Perm xs) (hb : BarZ w b W) (hr : RowI W base b cap n ys) (ham : a < m) (hmc : m < c) (hc : c ≤ n) => sym_merge xb base b cap n hn (c - a) ys a m c W hr (Nat.le_refl _) ham hmc hc (hC.go hp hb) rfl)
 clear h hC
 go_enter Tryz.func185, Tryz.ntmps185
 generalize hLA : Code.loop _ = LA
 generalize hLB : Code.loop _ = LB
 go_wp2_with fail
 subst hLA
 try subst hLB
 go_loopg [7, 8] n (fun K av bv wr => ∃ (a : Nat) (ys : List Nat), av = .int .i64 (a : Int) ∧ bv = .int .i64 ((a : Int) + 20) ∧ a + K = n ∧ Hid (ys.Perm xs) ∧ Hid (RowI wr base b cap n ys) ∧ Hid (BarZ w b wr))
 case atStart => exact ⟨0, xs, rfl, by go_num, by omega, hid (List.Perm.refl _), H, hid (BarZ.refl _ _)⟩
 case round =>
  obtain ⟨a, ys, rfl, rfl, ha, HP, HR, HB⟩ := hrel
  obtain ⟨c, hc⟩ : ∃ c, c = a + 20 := ⟨_, rfl⟩
  have hci : (a : Int) + 20 = (c : Int) := by omega
  have HA := hid ha
  have HCE := hid hc
  rw [hci]
  clear hci ha hc
  by_cases hcn : c ≤ n
  ·have hcni : (c : Int) ≤ (n : Int) := by omega
   have HI := hid (HINS.out ys a c wr HP.out HB.out HR.out (by have := HCE.out; omega) hcn)
   go_wp2_with fail
   with_reducible refine HI.out.mono ?_
   rintro e w7 ⟨rfl, zs, hp7, hr7, hb7⟩
   have HP7 := hid (hp7.trans HP.out)
   have HR7 := hid hr7
   have HB7 := hid (HB.out.trans hb7)
   clear hp7 hr7 hb7
   go_wp2_with fail
   go_roundg (gk - 20)
   case rel => exact ⟨c, zs, rfl, by go_num, by have := HCE.out; have := HA.out; omega, HP7, HR7, HB7⟩
   case measure => have := HCE.out; have := HA.out; omega
  ·have hcni : ¬ (c : Int) ≤ (n : Int) := by omega
   have hcnd : decide ((c : Int) ≤ (n : Int)) = false := decide_eq_false hcni
   have HI := hid (HINS.out ys a n wr HP.out HB.out HR.out (by have := HA.out; omega) (Nat.le_refl _))
   go_wp2_with fail
   with_reducible refine HI.out.mono ?_
   rintro e w7 ⟨rfl, zs, hp7, hr7, hb7⟩
   have HP7 := hid (hp7.trans HP.out)
   have HR7 := hid hr7
   have HB7 := hid (HB.out.trans hb7)
   clear hp7 hr7 hb7 HP HR HB HI hcni hcnd hcn HCE HA
   go_wp2_with fail
   go_loopg [6] (n - 20) (fun K sv wr => ∃ (s : Nat) (ys : List Nat), sv = .int .i64 (s : Int) ∧ K = n - s ∧ 20 ≤ s ∧ s ≤ 2097152 ∧ Hid (ys.Perm xs) ∧ Hid (RowI wr base b cap n ys) ∧ Hid (BarZ w b wr))
   case atStart => exact ⟨20, zs, rfl, by omega, by omega, by omega, HP7, HR7, HB7⟩
   case round =>
    clear HP7 HR7 HB7
    obtain ⟨s, ys, rfl, hs, hs20, hs2, HP, HR, HB⟩ := hrel
    obtain ⟨gA, rfl⟩ : ∃ g, g = gk := ⟨gk, rfl⟩
    have HSE := hid hs
    clear hs
    by_cases hsn : s < n
    ·have hsni : (s : Int) < (n : Int) := by omega
     obtain ⟨d, hd⟩ : ∃ d, d = 2 * s := ⟨_, rfl⟩
     have hdi : 2 * (s : Int) = (d : Int) := by omega
     have hdi2 : (s : Int) * 2 = (d : Int) := by omega
     have HD := hid hd
     have hd2 : d ≤ 2097152 := by omega
     have hdp : 40 ≤ d := by omega
     clear hd
     go_wp2_with fail
     go_loopg [7, 8] n (fun K av bv wr => ∃ (a : Nat) (ys : List Nat), av = .int .i64 (a : Int) ∧ bv = .int .i64 ((a : Int) + (d : Int)) ∧ a + K = n ∧ Hid (ys.Perm xs) ∧ Hid (RowI wr base b cap n ys) ∧ Hid (BarZ w b wr))
     case atStart => exact ⟨0, ys, rfl, by go_num, by omega, HP, HR, HB⟩
     case round =>
      clear HP HR HB
      obtain ⟨a, ys, rfl, rfl, ha, HP, HR, HB⟩ := hrel
      obtain ⟨c, hc⟩ : ∃ c, c = a + d := ⟨_, rfl⟩
      have hci : (a : Int) + (d : Int) = (c : Int) := by omega
      obtain ⟨m, hm⟩ : ∃ m, m = a + s := ⟨_, rfl⟩
      have hmi : (a : Int) + (s : Int) = (m : Int) := by omega
      have hmb : m ≤ 4194304 := by omega
      have hcb : c ≤ 4194304 := by omega
      have hwm : wrap64 (m : Int) = (m : Int) := by unfold wrap64; omega
      have HA := hid ha
      have HCE := hid (And.intro hc hm)
      rw [hci]
      clear hci ha hc hm
      by_cases hcn : c ≤ n
      ·have hcni : (c : Int) ≤ (n : Int) := by omega
       have HI := hid (HSYM.out ys a m c wr HP.out HB.out HR.out (by have := HCE.out; omega) (by have := HCE.out; have := HD.out; omega) hcn)
       obtain ⟨c2, hc2⟩ : ∃ c2, c2 = c + d := ⟨_, rfl⟩
       have hc2i : (c : Int) + (d : Int) = (c2 : Int) := by omega
       have HC2 := hid hc2
       clear hc2
       go_wp2_with fail
       with_reducible refine HI.out.mono ?_
       rintro e w7 ⟨rfl, zs, hp7, hr7, hb7⟩
       have HP7 := hid (hp7.trans HP.out)
       have HR7 := hid hr7
       have HB7 := hid (HB.out.trans hb7)
       clear hp7 hr7 hb7
       go_wp2_with fail
       go_roundg (gk - d)
       case rel => exact ⟨c, zs, rfl, by rw [hc2i], by have := HCE.out; have := HA.out; omega, HP7, HR7, HB7⟩
       case measure => have := HCE.out; have := HA.out; omega
      ·have hcni : ¬ (c : Int) ≤ (n : Int) := by omega
       have hcnd : decide ((c : Int) ≤ (n : Int)) = false := decide_eq_false hcni
       by_cases hmn : m < n
       ·have hmni : (m : Int) < (n : Int) := by omega
        have HI := hid (HSYM.out ys a m n wr HP.out HB.out HR.out (by have := HCE.out; omega) hmn (Nat.le_refl _))
        go_wp2_with fail
        with_reducible refine HI.out.mono ?_
        rintro e w7 ⟨rfl, zs, hp7, hr7, hb7⟩
        have HP7 := hid (hp7.trans HP.out)
        have HR7 := hid hr7
        have HB7 := hid (HB.out.trans hb7)
        clear hp7 hr7 hb7
        go_wp2_with fail
        go_roundg (n - d)
        case rel => exact ⟨d, zs, rfl, rfl, by omega, by omega, HP7, HR7, HB7⟩
        case measure => have := HD.out; have := HSE.out; omega
       ·have hmni : ¬ (m : Int) < (n : Int) := by omega
        have hmnd : decide ((m : Int) < (n : Int)) = false := decide_eq_false hmni
        go_wp2_with fail
        go_roundg (n - d)
        case rel => exact ⟨d, ys, rfl, rfl, by omega, by omega, HP, HR, HB⟩
        case measure => have := HD.out; have := HSE.out; omega
    ·have hsni : ¬ (s : Int) < (n : Int) := by omega
     have HF : Hid (PermP w base b cap n xs (.returned (.tuple #[])) wr) := hid ⟨rfl, ys, HP.out, HR.out, HB.out⟩
     go_wp2
     go_end0
     exact HF.out
set_option maxRecDepth 100000 in
theorem sort_stable (xs : List Nat) (base b cap n xb : Nat) (w : World) (h : RowI w base b cap n xs) (hn : n ≤ 1048576) (hC : CmpQ xs b xb w) :
    Calls Tryz.prog 153 #[.slice (some ⟨b, 0, none⟩) n cap, .func (.func 154) #[] #[.pointer (some ⟨xb, 0, none⟩)]] w (PermP w base b cap n xs) := by
  have HS := hid (stable_N xs base b cap n xb w h hn hC)
  clear h hC
  go_enter Tryz.func153, Tryz.ntmps153
  go_wp2_with fail
  with_reducible refine HS.out.mono ?_
  rintro e w1 ⟨rfl, h1⟩
  have H1 := hid h1
  clear h1
  go_wp2
  go_end0
  exact ⟨rfl, H1.out⟩
end Go.Proofs.YtikiimlmoalbcaaGreatDoor

namespace Go.Proofs.YtikiimlmoalbcaaGreatDoor
theorem take_kept {S : List Nat} {R : Nat → Nat → Prop} (hR : ∀ a b, R a b → ¬ R b a) (hS : S.Pairwise R) (P : Nat → Bool) (k : Nat)
    (h : ∀ x ∈ S, P x = false → ∃ T : List Nat, T.Nodup ∧ k ≤ T.length ∧ ∀ t ∈ T, t ∈ S ∧ R t x) : (S.filter P).take k = S.take k := by
  have hall : ∀ i (hi : i < S.length), i < k → P S[i] = true := by
    intro i hi hik
    cases hp : P S[i] with
    | true => rfl
    | false =>
      obtain ⟨T, hn, hl, hT⟩ := h _ (List.getElem_mem hi) hp
      have hsub : ∀ t ∈ T, t ∈ S.take i := by
        intro t ht
        obtain ⟨h1, h2⟩ := hT t ht
        obtain ⟨j, hj, e⟩ := List.getElem_of_mem h1
        rcases Nat.lt_trichotomy j i with hji | hji | hji
        · refine List.mem_iff_getElem.2 ⟨j, by rw [List.length_take]; omega, ?_⟩
          rw [List.getElem_take, e]
        · subst hji
          rw [e] at h2
          exact absurd h2 (hR _ _ h2)
        · have h3 := List.pairwise_iff_getElem.1 hS i j hi hj hji
          rw [e] at h3
          exact absurd h2 (hR _ _ h3)
      have hlen : T.length ≤ (S.take i).length := by
        clear hl hT h
        have : ∀ {l m : List Nat}, l.Nodup → (∀ x ∈ l, x ∈ m) → l.length ≤ m.length := by
          intro l
          induction l with
          | nil => intro m _ _; exact Nat.zero_le _
          | cons x l ih =>
            intro m hn hs
            obtain ⟨h1, h2⟩ := List.nodup_cons.1 hn
            have hx : x ∈ m := hs x (by simp)
            have h3 := ih (m := m.erase x) h2 fun y hy => (List.mem_erase_of_ne (fun e => h1 (by rw [← e]; exact hy))).2 (hs y (by simp [hy]))
            rw [List.length_erase_of_mem hx] at h3
            have := List.length_pos_of_mem hx
            rw [List.length_cons]
            omega
        exact this hn hsub
      rw [List.length_take] at hlen
      omega
  have htk : (S.take k).filter P = S.take k := by
    rw [List.filter_eq_self]
    intro x hx
    obtain ⟨i, hi, e⟩ := List.getElem_of_mem hx
    rw [List.length_take] at hi
    rw [List.getElem_take] at e
    rw [← e]
    exact hall i (by omega) (by omega)
  have e : S.filter P = S.take k ++ (S.drop k).filter P := by
    rw [← htk, ← List.filter_append, List.take_append_drop]
  rw [e]
  by_cases hk : k ≤ S.length
  · rw [List.take_append_of_le_length (by rw [List.length_take]; omega), List.take_take, Nat.min_self]
  · rw [List.drop_eq_nil_of_le (by omega)]
    simp [List.take_take]
theorem sorted_same {S T : List Nat} {R : Nat → Nat → Prop} (hR : ∀ a b, R a b → ¬ R b a) (hS : S.Pairwise R) (hT : T.Pairwise R) (hp : S.Perm T) : S = T := by
  induction S generalizing T with
  | nil => exact (List.nil_perm.1 hp).symm
  | cons x S ih =>
    cases T with
    | nil => exact absurd hp.length_eq (by simp)
    | cons y T =>
      rw [List.pairwise_cons] at hS hT
      have hxy : x = y := by
        rcases List.mem_cons.1 (hp.mem_iff.1 (List.mem_cons_self : x ∈ x :: S)) with h | h
        · exact h
        · rcases List.mem_cons.1 (hp.mem_iff.2 (List.mem_cons_self : y ∈ y :: T)) with h' | h'
          · exact h'.symm
          · exact absurd (hT.1 x h) (hR _ _ (hS.1 y h'))
      subst hxy
      rw [ih hS.2 hT.2 (List.perm_cons _ |>.1 hp)]
theorem cross_ge_gt {a b c d e f : Nat} (hb : 0 < b) (h1 : c * b ≤ a * d) (h2 : e * d < c * f) : e * b < a * f := by
  have e1 : e * d * b < c * f * b := Nat.mul_lt_mul_of_pos_right h2 hb
  have e2 : c * b * f ≤ a * d * f := Nat.mul_le_mul_right f h1
  have e3 : c * f * b = c * b * f := by rw [Nat.mul_assoc, Nat.mul_comm f b, ← Nat.mul_assoc]
  have e4 : e * d * b = e * b * d := by rw [Nat.mul_assoc, Nat.mul_comm d b, ← Nat.mul_assoc]
  have e5 : a * d * f = a * f * d := by rw [Nat.mul_assoc, Nat.mul_comm d f, ← Nat.mul_assoc]
  have e6 : e * b * d < a * f * d := by omega
  exact Nat.lt_of_mul_lt_mul_right e6
theorem cross_ge_ge {a b c d e f : Nat} (hd : 0 < d) (h1 : c * b ≤ a * d) (h2 : e * d ≤ c * f) : e * b ≤ a * f := by
  have e1 : e * d * b ≤ c * f * b := Nat.mul_le_mul_right b h2
  have e2 : c * b * f ≤ a * d * f := Nat.mul_le_mul_right f h1
  have e3 : c * f * b = c * b * f := by rw [Nat.mul_assoc, Nat.mul_comm f b, ← Nat.mul_assoc]
  have e4 : e * d * b = e * b * d := by rw [Nat.mul_assoc, Nat.mul_comm d b, ← Nat.mul_assoc]
  have e5 : a * d * f = a * f * d := by rw [Nat.mul_assoc, Nat.mul_comm d f, ← Nat.mul_assoc]
  have e6 : e * b * d ≤ a * f * d := by omega
  exact Nat.le_of_mul_le_mul_right e6 hd
theorem cross_gt_ge {a b c d e f : Nat} (hf : 0 < f) (h1 : c * b < a * d) (h2 : e * d ≤ c * f) : e * b < a * f := by
  have e1 : e * d * b ≤ c * f * b := Nat.mul_le_mul_right b h2
  have e2 : c * b * f < a * d * f := Nat.mul_lt_mul_of_pos_right h1 hf
  have e3 : c * f * b = c * b * f := by rw [Nat.mul_assoc, Nat.mul_comm f b, ← Nat.mul_assoc]
  have e4 : e * d * b = e * b * d := by rw [Nat.mul_assoc, Nat.mul_comm d b, ← Nat.mul_assoc]
  have e5 : a * d * f = a * f * d := by rw [Nat.mul_assoc, Nat.mul_comm d f, ← Nat.mul_assoc]
  have e6 : e * b * d < a * f * d := by omega
  exact Nat.lt_of_mul_lt_mul_right e6
structure Sco (Q : Nat) (den : Nat → Nat → Nat) : Prop where
  pos : ∀ n s, 0 < n → n ≤ Q → n ≤ s → 0 < den n s
  mono : ∀ n m s, 0 < n → n ≤ m → m ≤ Q → m ≤ s → n * den m s ≤ m * den n s
def befH (den : Nat → Nat → Nat) (sz f : Nat → Nat) (i j : Nat) : Prop :=
  f j * den (f i) (sz i) < f i * den (f j) (sz j) ∨ (f j * den (f i) (sz i) = f i * den (f j) (sz j) ∧ i < j)
theorem befH_anti {den : Nat → Nat → Nat} {sz f : Nat → Nat} (a b : Nat) (h : befH den sz f a b) : ¬ befH den sz f b a := by
  unfold befH at *
  omega
theorem overlap_sco (Q : Nat) : Sco Q (fun _ _ => 1) := ⟨fun _ _ _ _ _ => by omega, fun n m s _ h _ _ => by omega⟩
theorem early {Q : Nat} {den : Nat → Nat → Nat} (hs : Sco Q den) {sz com low best : Nat → Nat} {S : List Nat} (hS : S.Pairwise (befH den sz com)) {E k : Nat} (hE : ∀ c, c ∈ S ↔ c < E ∧ 0 < com c)
    (h1 : ∀ c, c < E → low c ≤ com c ∧ com c ≤ best c ∧ best c ≤ Q ∧ best c ≤ sz c) {T : List Nat} (hT : T.Nodup) (hk : T.length = k) {t : Nat} (ht : t < E ∧ 0 < low t)
    (hTe : ∀ c ∈ T, c < E ∧ 0 < low c ∧ low t * den (low c) (sz c) ≤ low c * den (low t) (sz t)) (P : Nat → Bool)
    (hP : ∀ c, c < E → 0 < com c → P c = false → best c * den (low t) (sz t) < low t * den (best c) (sz c)) : (S.filter P).take k = S.take k := by
  refine take_kept befH_anti hS P k fun x hx hp => ⟨T, hT, by omega, fun c hc => ?_⟩
  obtain ⟨hxE, hx0⟩ := (hE x).1 hx
  obtain ⟨hcE, hc0, hcv⟩ := hTe c hc
  obtain ⟨a1, a2, a3, a4⟩ := h1 c hcE
  obtain ⟨b1, b2, b3, b4⟩ := h1 x hxE
  obtain ⟨t1, t2, t3, t4⟩ := h1 t ht.1
  have hpx := hP x hxE hx0 hp
  refine ⟨(hE c).2 ⟨hcE, by omega⟩, .inl ?_⟩
  have p1 := hs.pos (com c) (sz c) (by omega) (by omega) (by omega)
  have p2 := hs.pos (low c) (sz c) hc0 (by omega) (by omega)
  have p3 := hs.pos (low t) (sz t) ht.2 (by omega) (by omega)
  have p4 := hs.pos (best x) (sz x) (by omega) (by omega) (by omega)
  have p5 := hs.pos (com x) (sz x) hx0 (by omega) (by omega)
  have m1 := hs.mono (low c) (com c) (sz c) hc0 a1 (by omega) (by omega)
  have m2 := hs.mono (com x) (best x) (sz x) hx0 b2 b3 b4
  have g1 : low t * den (com c) (sz c) ≤ com c * den (low t) (sz t) := cross_ge_ge p2 m1 hcv
  have g2 : best x * den (com c) (sz c) < com c * den (best x) (sz x) := cross_ge_gt p1 g1 hpx
  exact cross_gt_ge p5 g2 m2
end Go.Proofs.YtikiimlmoalbcaaGreatDoor

namespace Go.Proofs.YtikiimlmoalbcaaGreatDoor
open Go.RowKit
def comC (cs : List Cv) (q : List ByteArray) (c : Nat) : Nat := (q.filter (hasL (cs.getD c Cv.z).2)).length
def sizeC (cs : List Cv) (c : Nat) : Nat := (cs.getD c Cv.z).2.length
def lowC (cs : List Cv) (vs : List ByteArray) (r c : Nat) : Nat := ((vs.take r).filter (hasL (cs.getD c Cv.z).2)).length
def bestC (cs : List Cv) (vs : List ByteArray) (r c : Nat) : Nat := min (lowC cs vs r c + (vs.length - r)) (sizeC cs c)
def ReadOk (cs : List Cv) (q vs : List ByteArray) : Prop := vs.Perm (q.filter (hasL (setOfL (allOf cs))))
theorem nodup_leB {α : Type} : ∀ {l m : List α}, l.Nodup → (∀ x ∈ l, x ∈ m) → l.length ≤ m.length
  | [], _, _, _ => Nat.zero_le _
  | x :: l, m, h, hs => by
    obtain ⟨h1, h2⟩ := List.nodup_cons.1 h
    obtain ⟨s, t, rfl⟩ := List.append_of_mem (hs x (by simp))
    have h3 := nodup_leB (m := s ++ t) h2 fun y hy => by
      have h4 := hs y (by simp [hy])
      rcases List.mem_append.1 h4 with h5 | h5
      · exact List.mem_append.2 (.inl h5)
      · rcases List.mem_cons.1 h5 with h6 | h6
        · exact absurd (h6 ▸ hy) h1
        · exact List.mem_append.2 (.inr h6)
    rw [List.length_append] at h3
    rw [List.length_cons, List.length_append, List.length_cons]
    omega
theorem hasL_all {cs : List Cv} {c : Nat} {v : ByteArray} (h : hasL (cs.getD c Cv.z).2 v = true) : hasL (setOfL (allOf cs)) v = true := by
  rw [hasL_iff] at h ⊢
  rw [setOfL_mem_iff, all_mem]
  by_cases hc : c < cs.length
  · exact ⟨_, getD_mem hc Cv.z, h⟩
  · have e : cs.getD c Cv.z = Cv.z := by simp [List.getD, List.getElem?_eq_none (Nat.le_of_not_lt hc)]
    rw [e] at h
    cases h
theorem low_zero (cs : List Cv) (vs : List ByteArray) (c : Nat) : lowC cs vs 0 c = 0 := by simp [lowC]
theorem low_succ (cs : List Cv) {vs : List ByteArray} {r : Nat} (hr : r < vs.length) (c : Nat) : lowC cs vs (r + 1) c = lowC cs vs r c + if hasL (cs.getD c Cv.z).2 (vs.getD r ⟨#[]⟩) = true then 1 else 0 := by
  unfold lowC
  rw [List.take_succ_eq_append_getElem hr, List.filter_append, List.length_append, List.filter_cons, List.filter_nil]
  have e : vs.getD r ⟨#[]⟩ = vs[r] := by simp [List.getD, hr]
  rw [e]
  split <;> rfl
section
variable {cs : List Cv} {q vs : List ByteArray}
theorem com_vs (h : ReadOk cs q vs) (c : Nat) : comC cs q c = (vs.filter (hasL (cs.getD c Cv.z).2)).length := by
  rw [(h.filter _).length_eq, List.filter_filter]
  unfold comC
  congr 1
  refine List.filter_congr fun v _ => ?_
  cases e : hasL (cs.getD c Cv.z).2 v
  · rfl
  · rw [hasL_all e]; rfl
theorem vs_le (h : ReadOk cs q vs) : vs.length ≤ q.length := by rw [h.length_eq]; exact List.length_filter_le _ _
theorem low_le_com (h : ReadOk cs q vs) (r c : Nat) : lowC cs vs r c ≤ comC cs q c := by
  rw [com_vs h]
  exact (List.Sublist.filter _ (List.take_sublist r vs)).length_le
theorem com_le_low (h : ReadOk cs q vs) (r c : Nat) : comC cs q c ≤ lowC cs vs r c + (vs.length - r) := by
  rw [com_vs h]
  unfold lowC
  have e : (vs.filter (hasL (cs.getD c Cv.z).2)).length = ((vs.take r).filter (hasL (cs.getD c Cv.z).2)).length + ((vs.drop r).filter (hasL (cs.getD c Cv.z).2)).length := by
    rw [← List.length_append, ← List.filter_append, List.take_append_drop]
  have h2 := List.length_filter_le (hasL (cs.getD c Cv.z).2) (vs.drop r)
  rw [List.length_drop] at h2
  omega
theorem com_le_size (hq : q.Nodup) (c : Nat) : comC cs q c ≤ sizeC cs c := nodup_leB (hq.sublist List.filter_sublist) fun x hx => (hasL_iff _ _).1 (List.mem_filter.1 hx).2
theorem com_le_q (c : Nat) : comC cs q c ≤ q.length := List.length_filter_le _ _
theorem com_le_best (h : ReadOk cs q vs) (hq : q.Nodup) (r c : Nat) : comC cs q c ≤ bestC cs vs r c := by
  have h1 := com_le_low h r c
  have h2 := com_le_size (cs := cs) hq c
  unfold bestC
  omega
theorem best_le (h : ReadOk cs q vs) (r c : Nat) (hr : r ≤ vs.length) : bestC cs vs r c ≤ q.length ∧ bestC cs vs r c ≤ sizeC cs c := by
  have h1 := vs_le h
  have h2 : lowC cs vs r c ≤ r := Nat.le_trans (List.length_filter_le _ _) (List.length_take_le _ _)
  unfold bestC
  omega
theorem low_all (h : ReadOk cs q vs) (hq : q.Nodup) (c : Nat) : lowC cs vs vs.length c = comC cs q c ∧ bestC cs vs vs.length c = comC cs q c := by
  have e : lowC cs vs vs.length c = comC cs q c := by rw [com_vs h]; unfold lowC; rw [List.take_length]
  have h2 := com_le_size (cs := cs) hq c
  refine ⟨e, ?_⟩
  unfold bestC
  omega
end
def HitsOk (den : Nat → Nat → Nat) (cs : List Cv) (q : List ByteArray) (S : List Nat) : Prop :=
  S.Pairwise (befH den (sizeC cs) (comC cs q)) ∧ ∀ c, c ∈ S ↔ c < cs.length ∧ 0 < comC cs q c
theorem befH_nodup {den : Nat → Nat → Nat} {sz f : Nat → Nat} {S : List Nat} (h : S.Pairwise (befH den sz f)) : S.Nodup := h.imp fun hab e => by
  subst e
  exact befH_anti _ _ hab hab
theorem known_filter {den : Nat → Nat → Nat} {cs : List Cv} {q : List ByteArray} {S H : List Nat} (h : HitsOk den cs q S) (P : Nat → Bool) (hH : H.Pairwise (befH den (sizeC cs) (comC cs q))) (hm : ∀ c, c ∈ H ↔ c < cs.length ∧ 0 < comC cs q c ∧ P c = true) : H = S.filter P :=
  sorted_same befH_anti hH (h.1.sublist List.filter_sublist) ((List.perm_ext_iff_of_nodup (befH_nodup hH) ((befH_nodup h.1).sublist List.filter_sublist)).2 fun c => by rw [hm, List.mem_filter, h.2, and_assoc])
def mayL (den : Nat → Nat → Nat) (cs : List Cv) (vs : List ByteArray) (r t : Nat) : List Nat :=
  (List.range cs.length).filter fun i => decide (0 < bestC cs vs r i) && decide (lowC cs vs r t * den (bestC cs vs r i) (sizeC cs i) ≤ bestC cs vs r i * den (lowC cs vs r t) (sizeC cs t))
theorem top_early {den : Nat → Nat → Nat} {cs : List Cv} {q vs : List ByteArray} (hs : Sco q.length den) (hv : ReadOk cs q vs) (hq : q.Nodup) {S : List Nat} (hS : HitsOk den cs q S) {r k : Nat} (hr : r ≤ vs.length)
    {SS : List Nat} (h1 : SS.Pairwise (befH den (sizeC cs) (lowC cs vs r))) (h2 : ∀ c ∈ SS, c < cs.length ∧ 0 < lowC cs vs r c) (hk : 0 < k) (hl : k ≤ SS.length) (P : Nat → Bool) (hP : ∀ c, P c = false → c ∉ mayL den cs vs r (SS.getD (k - 1) 0)) :
    (S.filter P).take k = S.take k := by
  have hkl : k - 1 < SS.length := by omega
  have ht := h2 _ (getD_mem hkl 0)
  have e0 : SS.getD (k - 1) 0 = SS[k - 1] := by simp [List.getD, hkl]
  refine early (low := lowC cs vs r) (best := bestC cs vs r) hs hS.1 hS.2 (fun c _ => ⟨low_le_com hv r c, com_le_best hv hq r c, (best_le hv r c hr).1, (best_le hv r c hr).2⟩) (T := SS.take k) ((befH_nodup h1).sublist (List.take_sublist _ _)) (by rw [List.length_take]; omega) ht (fun c hc => ?_) P (fun c hc h0 hp => ?_)
  · obtain ⟨hc1, hc2⟩ := h2 c (List.mem_of_mem_take hc)
    refine ⟨hc1, hc2, ?_⟩
    obtain ⟨i, hi, e⟩ := List.getElem_of_mem hc
    rw [List.length_take] at hi
    rw [List.getElem_take] at e
    rw [e0]
    by_cases hik : i = k - 1
    · subst hik
      rw [e]
      exact Nat.le_refl _
    · have h3 := List.pairwise_iff_getElem.1 h1 i (k - 1) (by omega) hkl (by omega)
      rw [e] at h3
      unfold befH at h3
      omega
  · have h3 := hP c hp
    have h4 := com_le_best hv hq r c
    unfold mayL at h3
    rw [List.mem_filter] at h3
    have h5 : ¬ (lowC cs vs r (SS.getD (k - 1) 0) * den (bestC cs vs r c) (sizeC cs c) ≤ bestC cs vs r c * den (lowC cs vs r (SS.getD (k - 1) 0)) (sizeC cs (SS.getD (k - 1) 0))) := fun e => h3 ⟨List.mem_range.2 hc, by rw [decide_eq_true e, decide_eq_true (by omega : 0 < bestC cs vs r c)]; rfl⟩
    omega
end Go.Proofs.YtikiimlmoalbcaaGreatDoor
