/- Contracts of bounded.Least$1 and Least$2. Contract of bounded.Least$2; slices.IndexFunc and slices.DeleteFunc where what is struck is the end. Hits that are only read; slices.DeleteFunc where what is struck is the end. What holds at the end of bounded.Top and bounded.Least. -/
import Derived.Deep.Cut
import Derived.Deep.CutRange
import Derived.Test.YtikiimlmoalbcaaGreatDoorCoFbg
import Derived.Lib.LazyBuf
import Derived.Lib.SliceRun
import Derived.Deep.Upon
set_option linter.unusedVariables false
set_option linter.unusedSimpArgs false
namespace Go.Proofs.YtikiimlmoalbcaaGreatDoor
open Go.RowKit
def lstB (den : Nat → Nat → Nat) (cs : List Cv) (vs : List ByteArray) (p0 q0 r i : Nat) : Bool := decide (0 < bestC cs vs r i) && (decide (lowC cs vs r i ≠ bestC cs vs r i) && decide (p0 * den (bestC cs vs r i) (sizeC cs i) ≤ bestC cs vs r i * q0))
def GoodL (den : Nat → Nat → Nat) (cs : List Cv) (vs : List ByteArray) (p0 q0 r : Nat) (cols : List Nat) : Prop := cols = upF (lstB den cs vs p0 q0 r) cs.length
theorem sgn_red1 {n d p0 q0 : Nat} (hn : 0 < n) : 0 ≤ Fr.sgn (n / Nat.gcd n d * q0) (p0 * (d / Nat.gcd n d)) ↔ p0 * d ≤ n * q0 := by
  rw [Fr.sgn_nonneg]
  have g0 : 0 < Nat.gcd n d := Nat.gcd_pos_of_pos_left _ hn
  have e1 : n = Nat.gcd n d * (n / Nat.gcd n d) := (Nat.mul_div_cancel' (Nat.gcd_dvd_left _ _)).symm
  have e2 : d = Nat.gcd n d * (d / Nat.gcd n d) := (Nat.mul_div_cancel' (Nat.gcd_dvd_right _ _)).symm
  generalize n / Nat.gcd n d = p at *
  generalize d / Nat.gcd n d = q at *
  generalize Nat.gcd n d = g at *
  rw [e1, e2]
  have a1 : p0 * (g * q) = g * (p0 * q) := Nat.mul_left_comm _ _ _
  have a2 : g * p * q0 = g * (p * q0) := Nat.mul_assoc _ _ _
  rw [a1, a2]
  exact (Nat.mul_le_mul_left_iff g0).symm
set_option maxRecDepth 100000 in
set_option maxHeartbeats 8000000 in
theorem least_rest {w0 w : World} {cs : List Cv} {q : List ByteArray} {ev vv lv qv fv : Value} {sb lb xc cap r : Nat} {xa : Option Addr} {pl : List Nat} {den : Nat → Nat → Nat} (hin : SrcIn w0 cs q ev vv lv qv) (h : SrcSt w0 w cs q ev vv lv qv fv sb lb xa xc cap pl r) (hs : ScoOk w0 fv q.length den)
  {tb kb p0 q0 nc dc : Nat} {na da : Option Addr} (ht : BoxN w tb 147 #[.pointer (some ⟨sb, 0, none⟩)]) (hkb : BoxN w kb 45 #[.bool false, .slice na (Fr.dig p0).length nc, .bool false, .slice da (Fr.dig q0).length dc]) (hrf : Fr.RdF w (.agg #[.bool false, .slice na (Fr.dig p0).length nc, .bool false, .slice da (Fr.dig q0).length dc]) false p0 q0) (hsm : Fr.Sml p0 q0) (ho : Fr.OneAt w) :
  Calls Tryz.prog 118 #[.pointer (some ⟨tb, 0, none⟩), .pointer (some ⟨kb, 0, none⟩)] w (RestP cs (GoodL den cs (vsOf cs pl) p0 q0) r w) := by
 obtain ⟨i0, hi0, hz0, hz1, hz2⟩ := info_parts info_int'
 have hpn := h.len
 have hql := hin.ql
 have hE := hin.ok.many
 have hle := h.le
 have hv := h.ok
 have hnd : q.Nodup := asc_nodupB hin.asc
 have HBEST := hid (fun W c (hW : Below w.heap.size w W) (hc : c < cs.length) => st_best hin (h.later hW) hc)
 have HHIT := hid (fun W c n (hW : Below w.heap.size w W) (hc : c < cs.length) (h1 : n ≤ q.length) (h2 : n ≤ sizeC cs c) => st_hit hin (h.later hW) hs hc h1 h2)
 have HBX := hid (fun W (hW : Below w.heap.size w W) => (h.later hW).box)
 have HLW := hid (fun W c (hW : Below w.heap.size w W) (hc : c < cs.length) => (by
  have h1 := (h.later hW).low.at hc
  rwa [lowsL_at hc] at h1 : W.cell? ⟨lb, c, none⟩ = some (.int .i64 ((lowC cs (vsOf cs pl) r c : Nat) : Int))))
 have HT := hid (fun W (hW : Below w.heap.size w W) => (ht.below hW ht.lt).cell 0 rfl)
 have HKB := hid (fun W (hW : Below w.heap.size w W) => hkb.below hW hkb.lt)
 have HBO := hid (fun c => best_le hv r c (by rw [vs_len]; exact hle))
 have HSM := hid (fun c n (h0 : 0 < n) (h1 : n ≤ q.length) (h2 : n ≤ sizeC cs c) => sml_ofB (c := n) (d := den n (sizeC cs c)) (hs.sco.pos n _ h0 h1 h2) (by omega) (hs.small n _ h0 h1 h2 (size_le hin.ok c)))
 have HCMP := hid (fun W v P Q (hW : Below w.heap.size w W) (hr : Fr.RdF W v false P Q) (hsm1 : Fr.Sml P Q) => Fr.frac_Cmp v (.agg #[.bool false, .slice na (Fr.dig p0).length nc, .bool false, .slice da (Fr.dig q0).length dc]) P Q p0 q0 W hr (hrf.kept hW) hsm1 hsm (ho.below hW))
 have hszb : ∀ c, sizeC cs c ≤ 1048576 := fun c => Nat.le_trans (size_le hin.ok c) (by omega)
 have HSZ := hid hszb
 obtain ⟨vs, hvs⟩ : ∃ vs, vs = vsOf cs pl := ⟨_, rfl⟩
 rw [← hvs] at HBEST HLW HBO ⊢
 clear hin h hs ho hv hnd ht hkb hvs hrf hsm hszb
 go_enter Tryz.func118, Tryz.ntmps118
 have x6 := BoxN.cell (HBX.out w (Below.refl _ _)) 6 rfl
 have c0 := HT.out w (Below.refl _ _)
 go_wp2_with fail
 go_loopg [15, 4, 5, 6, 7, 8, 9] cs.length (fun K i o u5 u6 u7 u8 u9 wr => ∃ (p : Nat) (oa2 : Option Addr) (oc2 : Nat), i = .int .i64 (p : Int) ∧ p + K = cs.length ∧ o = .slice oa2 (upF (lstB den cs vs p0 q0 r) p).length oc2 ∧ Hid (Below w.heap.size w wr) ∧ Hid (wr.ownsRow w.heap.size 3 1 (.slice oa2 (upF (lstB den cs vs p0 q0 r) p).length oc2) (upF (lstB den cs vs p0 q0 r) p).length (natsV (upF (lstB den cs vs p0 q0 r) p))))
 case atStart => exact ⟨0, none, 0, rfl, by omega, rfl, hid (Below.refl _ _), hid (World.ownsRow_nil _ _ _ _)⟩
 case round =>
  obtain ⟨p, oa2, oc2, rfl, hp0, rfl, HBW, HOW⟩ := hrel
  clear x6 c0
  by_cases hp : 0 < gk
  ·have hpl : p < cs.length := by omega
   have hpi : (p : Int) < (cs.length : Int) := by omega
   have l0 := HLW.out wr p HBW.out hpl
   have c0 := HT.out wr HBW.out
   have hbo := HBO.out p
   have HBE := hid (HBEST.out wr p HBW.out hpl)
   have HHB := hid (fun W (hW : Below w.heap.size w W) => HHIT.out W p (bestC cs vs r p) hW hpl hbo.1 hbo.2)
   have HSN := hid (fun h0 : 0 < bestC cs vs r p => HSM.out p _ h0 hbo.1 hbo.2)
   have HRP := hid (fun h0 : 0 < bestC cs vs r p => sgn_red1 (n := bestC cs vs r p) (d := den (bestC cs vs r p) (sizeC cs p)) (p0 := p0) (q0 := q0) h0)
   have HMP : Hid (lstB den cs vs p0 q0 r p = (decide (0 < bestC cs vs r p) && (decide (lowC cs vs r p ≠ bestC cs vs r p) && decide (p0 * den (bestC cs vs r p) (sizeC cs p) ≤ bestC cs vs r p * q0)))) := hid rfl
   have HUY := hid (fun h => @upF_yes (lstB den cs vs p0 q0 r) p h)
   have HUN := hid (fun h => @upF_no (lstB den cs vs p0 q0 r) p h)
   have hul := upF_len (lstB den cs vs p0 q0 r) p
   have hbq : bestC cs vs r p ≤ 1048576 := by omega
   generalize (cs.getD p Cv.z).1.1 = ta at *
   generalize (cs.getD p Cv.z).1.2 = can at *
   generalize den (bestC cs vs r p) (sizeC cs p) = db at *
   generalize bestC cs vs r p = bs at *
   generalize lowC cs vs r p = lo at *
   clear hbo
   have hrw := HBW.out.size
   go_wp2_with fail
   with_reducible refine HBE.out.mono ?_
   rintro e w2 ⟨rfl, hb2⟩
   have HB2 := hid (HBW.out.trans (hb2.mono hrw))
   have HW2 := hid hb2
   have c0 := HT.out w2 HB2.out
   clear hb2
   go_wp2_with fail
   with_reducible refine (HHB.out w2 HB2.out).mono ?_
   rintro e w5 ⟨s1, s2, a5, b5, c5, k5, l5, m5, rfl, hb5, hpf⟩
   have HW5 := hid (HW2.out.trans (hb5.mono HW2.out.size))
   have HB5 := hid (HBW.out.trans (HW5.out.mono hrw))
   have hw5 : w.heap.size ≤ w5.heap.size := HB5.out.size
   by_cases hb0 : 0 < bs
   ·obtain ⟨rfl, rfl, rfl, rfl, hN⟩ := hpf hb0
    have ed : decide (0 < bs) = true := decide_eq_true hb0
    rw [ed]
    rw [ed] at HMP
    clear hpf ed
    have HRQ := hid (HRP.out hb0)
    have HSN1 := hid (HSN.out hb0)
    generalize bs / Nat.gcd bs db = P at *
    generalize db / Nat.gcd bs db = Q at *
    by_cases hlb : lo = bs
    ·have HY := hid (HUN.out (by rw [HMP.out, decide_eq_false (fun h : lo ≠ bs => h hlb)]; rfl))
     subst hlb
     clear hN hb5
     go_wp2_with fail
     go_roundg (gk - 1)
     case rel => exact ⟨p + 1, oa2, oc2, by go_num, by omega, by rw [HY.out], hid (HB5.out.alloc hw5 _), hid (by rw [HY.out]; exact (own_later HOW.out HW5.out).alloc _)⟩
     case measure => omega
    ·have hne1 : ((lo : Int) == (bs : Int)) = false := by rw [beq_eq_false_iff_ne]; omega
     have hne2 : ((lo : Int) != (bs : Int)) = true := by rw [bne_iff_ne]; omega
     have HHX := hid (BoxN.new w5 #[.int .i64 ta, .int .i64 (can : Int), .bool false, .slice a5 (Fr.dig P).length c5, .bool false, .slice b5 (Fr.dig Q).length k5] 53)
     have HB6 := hid (HB5.out.alloc hw5 (.cells #[.int .i64 ta, .int .i64 (can : Int), .bool false, .slice a5 (Fr.dig P).length c5, .bool false, .slice b5 (Fr.dig Q).length k5] 53))
     have HW6 := hid (HW5.out.alloc HW5.out.size (.cells #[.int .i64 ta, .int .i64 (can : Int), .bool false, .slice a5 (Fr.dig P).length c5, .bool false, .slice b5 (Fr.dig Q).length k5] 53))
     have HRF := hid ((hN.rd false).kept ((Below.refl w5.heap.size w5).alloc (Nat.le_refl _) (.cells #[.int .i64 ta, .int .i64 (can : Int), .bool false, .slice a5 (Fr.dig P).length c5, .bool false, .slice b5 (Fr.dig Q).length k5] 53)))
     have hk6 := HKB.out _ HB6.out
     have y0 := hk6.cell 0 rfl
     have y1 := hk6.cell 1 rfl
     have y2 := hk6.cell 2 rfl
     have y3 := hk6.cell 3 rfl
     have x2 := HHX.out.cell 2 rfl
     have x3 := HHX.out.cell 3 rfl
     have x4 := HHX.out.cell 4 rfl
     have x5 := HHX.out.cell 5 rfl
     have HCM := hid (HCMP.out _ _ P Q HB6.out HRF.out HSN1.out)
     clear hN hb5 hk6
     generalize Fr.sgn (P * q0) (p0 * Q) = z at *
     go_wp2_with fail
     with_reducible refine HCM.out.mono ?_
     rintro e w6 ⟨rfl, hb6⟩
     have HW6 := hid (HW6.out.trans (hb6.mono HW6.out.size))
     have HBR6 := hid (HBW.out.trans (HW6.out.mono hrw))
     have HOW6 := hid (own_later HOW.out HW6.out)
     have hz6 := HBR6.out.size
     clear hb6 HB6 HW6 HHX HRF
     by_cases hz : 0 ≤ z
     ·have HY := hid (HUY.out (by rw [HMP.out, decide_eq_true (show lo ≠ bs from hlb), decide_eq_true (HRQ.out.1 hz)]; rfl))
      obtain ⟨m, hm⟩ : ∃ m, m = (upF (lstB den cs vs p0 q0 r) p).length := ⟨_, rfl⟩
      rw [← hm] at HOW6 hul ⊢
      have HM := hid hm
      clear hm x2 x3 x4 x5 y0 y1 y2 y3
      go_wp2_with (at_builtin; refine wpList_append_form _ rfl (.tmp 43) (.tmp 45) 34 34 rfl w.heap.size 3 3 i0 (.int .i64 0) 1 8 Tryz.underlying34 Tryz.underlying34 hi0 hz0 hz1 hz2 rfl (by decide) (.slice oa2 m oc2) m (natsV (upF (lstB den cs vs p0 q0 r) p)) rfl (HOW6.out.alloc _) (some ⟨_, 0, none⟩) 1 1 [.int .i64 (p : Int)] rfl rfl (fun _ => ⟨_, rfl, cell_one_new _ _ _⟩) (by intro u hu; simp at hu; subst hu; rfl) (by omega) (by unfold maxLen; omega) (by omega) (by simp; omega) ?_; intro g7 cap7 w7 hown7 hg7 hat7 hlt7; have HOWN7 := hid hown7; have HG7 := hid (below_grownQ (HBR6.out.alloc hz6 _) hg7 (fun k hk => (HOW6.out.lt k hk).1)); clear hown7 hg7 hat7 hlt7)
      go_wp2
      go_roundg (gk - 1)
      case rel => exact ⟨p + 1, _, cap7, by go_num, by omega, by rw [HY.out, List.length_append, ← HM.out]; rfl, HG7, hid (by rw [HY.out, List.length_append, ← HM.out]; simpa [natsV] using HOWN7.out)⟩
      case measure => omega
     ·have HY := hid (HUN.out (by rw [HMP.out, decide_eq_false (fun e => hz (HRQ.out.2 e)), Bool.and_false, Bool.and_false]))
      clear x2 x3 x4 x5 y0 y1 y2 y3
      go_wp2_with fail
      go_roundg (gk - 1)
      case rel => exact ⟨p + 1, oa2, oc2, by go_num, by omega, by rw [HY.out], HBR6, hid (by rw [HY.out]; exact HOW6.out)⟩
      case measure => omega
   ·have ed : decide (0 < bs) = false := decide_eq_false hb0
    rw [ed]
    have HY := hid (HUN.out (by rw [HMP.out, ed]; rfl))
    clear hpf ed hb5
    go_wp2_with fail
    go_roundg (gk - 1)
    case rel => exact ⟨p + 1, oa2, oc2, by go_num, by omega, by rw [HY.out], hid (HB5.out.alloc hw5 _), hid (by rw [HY.out]; exact (own_later HOW.out HW5.out).alloc _)⟩
    case measure => omega
  ·obtain rfl : gk = 0 := by omega
   obtain rfl : p = cs.length := by omega
   have HCOLS := hid (own_in HOW.out rfl)
   go_wp2
   go_ret2
   exact ⟨upF (lstB den cs vs p0 q0 r) cs.length, _, true, rfl, ⟨HCOLS.out, upF_up _ _, fun c hc => (upF_mem.1 hc).1, Nat.le_trans (upF_len _ _) (by omega)⟩, fun _ => rfl, HBW.out⟩
end Go.Proofs.YtikiimlmoalbcaaGreatDoor

namespace Go.Proofs.YtikiimlmoalbcaaGreatDoor
open Go.RowKit
theorem sgn_neg {a b : Nat} : decide (Fr.sgn a b < 0) = decide (a < b) := by
  rw [decide_eq_decide]
  unfold Fr.sgn
  split
  · omega
  · split <;> omega
set_option maxRecDepth 100000 in
set_option maxHeartbeats 2000000 in
theorem least_del (m : Mh) {lk p0 q0 nc dc : Nat} {na da : Option Addr} (w : World) (hb : BoxN w lk 45 #[.bool false, .slice na (Fr.dig p0).length nc, .bool false, .slice da (Fr.dig q0).length dc]) (hrf : Fr.RdF w (.agg #[.bool false, .slice na (Fr.dig p0).length nc, .bool false, .slice da (Fr.dig q0).length dc]) false p0 q0) (hsm : Fr.Sml p0 q0) (hr : Fr.RdF w m.fr false m.p m.q) (hs : Fr.Sml m.p m.q) (ho : Fr.OneAt w) :
    Calls Tryz.prog 120 #[.agg (encM m).toArray, .pointer (some ⟨lk, 0, none⟩)] w (Ret w (.bool (decide (m.p * q0 < p0 * m.q)))) := by
  have HCMP := hid (fun W v P Q (hW : Below w.heap.size w W) (hr : Fr.RdF W v false P Q) (hsm1 : Fr.Sml P Q) => Fr.frac_Cmp v (.agg #[.bool false, .slice na (Fr.dig p0).length nc, .bool false, .slice da (Fr.dig q0).length dc]) P Q p0 q0 W hr (hrf.kept hW) hsm1 hsm (ho.below hW))
  have HKB := hid (fun W (hW : Below w.heap.size w W) => hb.below hW hb.lt)
  obtain ⟨ta, ca, ⟨a, c⟩, ⟨b, k⟩, P, Q⟩ := m
  have HRF := hid hr
  unfold Mh.fr at HRF
  have HSM := hid hs
  clear hb hrf hsm ho hr hs
  show Calls Tryz.prog 120 #[.agg #[.int .i64 ta, .int .i64 ca, .bool false, .slice a (Fr.dig P).length c, .bool false, .slice b (Fr.dig Q).length k], .pointer (some ⟨lk, 0, none⟩)] w (Ret w (.bool (decide (P * q0 < p0 * Q))))
  have HB0 := hid ((Below.refl w.heap.size w).alloc (Nat.le_refl _) (.cells #[.int .i64 ta, .int .i64 ca, .bool false, .slice a (Fr.dig P).length c, .bool false, .slice b (Fr.dig Q).length k] 53))
  have HX := BoxN.new w #[.int .i64 ta, .int .i64 ca, .bool false, .slice a (Fr.dig P).length c, .bool false, .slice b (Fr.dig Q).length k] 53
  have x2 := HX.cell 2 rfl
  have x3 := HX.cell 3 rfl
  have x4 := HX.cell 4 rfl
  have x5 := HX.cell 5 rfl
  have hk6 := HKB.out _ HB0.out
  have y0 := hk6.cell 0 rfl
  have y1 := hk6.cell 1 rfl
  have y2 := hk6.cell 2 rfl
  have y3 := hk6.cell 3 rfl
  have HCM := hid (HCMP.out _ _ P Q HB0.out (HRF.out.kept HB0.out) HSM.out)
  have HSG : Hid (decide (Fr.sgn (P * q0) (p0 * Q) < 0) = decide (P * q0 < p0 * Q)) := hid sgn_neg
  clear hk6 HX
  generalize Fr.sgn (P * q0) (p0 * Q) = z at *
  generalize decide (P * q0 < p0 * Q) = bb at *
  go_enter Tryz.func120, Tryz.ntmps120
  go_wp2_with fail
  with_reducible refine HCM.out.mono ?_
  rintro e w6 ⟨rfl, hb6⟩
  have HB6 := hid (HB0.out.trans (hb6.mono HB0.out.size))
  clear hb6
  go_wp2
  go_ret
  exact ⟨by rw [← HSG.out]; rfl, HB6.out⟩
theorem hit_at {w : World} {S : Nat → Prop} {v : Value} {ds : List Mq} (h : InK 6 w S v ds.length (encF encQ default ds)) {p : Nat} (hp : p < ds.length) : ∃ b o c, v = .slice (some ⟨b, o, none⟩) ds.length c ∧ S b ∧ ∀ j, j < 6 → w.cell? ⟨b, o + p * 6 + j, none⟩ = some ((encM (ds.getD p default).1).getD j (.bool false)) := by
  obtain ⟨a, c, rfl, -, -, hr⟩ := h
  obtain ⟨b, o, rfl, hb, hc⟩ := hr (by omega)
  exact ⟨b, o, c, rfl, hb, fun j hj => by rw [hc p hp j hj, encQ_at ds hp]⟩
set_option maxRecDepth 100000 in
set_option maxHeartbeats 2000000 in
theorem idx_hits (ds : List Mq) (v : Value) (lk m : Nat) (w : World) (D : Nat → Bool) (hv : InK 6 w (· < w.heap.size) v ds.length (encF encQ default ds)) (hl : ds.length ≤ 1048576) (hD : ∀ p, p < ds.length → ∀ W, Below w.heap.size w W → Calls Tryz.prog 120 #[.agg (encM (ds.getD p default).1).toArray, .pointer (some ⟨lk, 0, none⟩)] W (Ret W (.bool (D p))))
  (hm : m ≤ ds.length) (h1 : ∀ p, p < m → D p = false) (h2 : ∀ p, m ≤ p → p < ds.length → D p = true) :
  Calls Tryz.prog 165 #[v, .func (.func 120) #[] #[.pointer (some ⟨lk, 0, none⟩)]] w (Ret w (.int .i64 (if m = ds.length then -1 else (m : Int)))) := by
 have HAT := hid (fun p W (hp : p < ds.length) (hW : Below w.heap.size w W) => hit_at (InK.keep (w' := W) hv fun x hx => hW.cell (p := x) hx) hp)
 have HD := hid hD
 have H1 := hid h1
 have H2 := hid h2
 obtain ⟨a0, c0, rfl, -⟩ := hv
 clear hD h1 h2
 obtain ⟨R, hR⟩ : ∃ R : Int, R = if m = ds.length then -1 else (m : Int) := ⟨_, rfl⟩
 rw [← hR]
 have HRR := hid hR
 clear hR
 go_enter Tryz.func165, Tryz.ntmps165
 go_wp2_with fail
 go_loopg [8, 4, 5] ds.length (fun K i u4 u5 wr => ∃ p : Nat, i = .int .i64 (p : Int) ∧ p + K = ds.length ∧ p ≤ m ∧ Hid (Below w.heap.size w wr))
 case atStart => exact ⟨0, rfl, by omega, by omega, hid (Below.refl _ _)⟩
 case round =>
  obtain ⟨p, rfl, hp0, hpm, HB⟩ := hrel
  by_cases hp : 0 < gk
  ·have hpl : p < ds.length := by omega
   have hpi : (p : Int) < (ds.length : Int) := by omega
   obtain ⟨bb, oo, cc, e, -, hc⟩ := HAT.out p wr hpl HB.out
   obtain ⟨rfl, -, rfl⟩ := Value.slice.inj e
   have HDP := hid (HD.out p hpl wr HB.out)
   generalize (ds.getD p default).1 = y at *
   obtain ⟨ta, ca, ⟨a, c⟩, ⟨b, k⟩, P, Q⟩ := y
   have k0 : wr.cell? ⟨bb, oo + p * 6, none⟩ = some (.int .i64 ta) := hc 0 (by omega)
   have k1 : wr.cell? ⟨bb, oo + p * 6 + 1, none⟩ = some (.int .i64 ca) := hc 1 (by omega)
   have k2 : wr.cell? ⟨bb, oo + p * 6 + 2, none⟩ = some (.bool false) := hc 2 (by omega)
   have k3 : wr.cell? ⟨bb, oo + p * 6 + 3, none⟩ = some (.slice a (Fr.dig P).length c) := hc 3 (by omega)
   have k4 : wr.cell? ⟨bb, oo + p * 6 + 4, none⟩ = some (.bool false) := hc 4 (by omega)
   have k5 : wr.cell? ⟨bb, oo + p * 6 + 5, none⟩ = some (.slice b (Fr.dig Q).length k) := hc 5 (by omega)
   have HDP : Hid (Calls Tryz.prog 120 #[.agg #[.int .i64 ta, .int .i64 ca, .bool false, .slice a (Fr.dig P).length c, .bool false, .slice b (Fr.dig Q).length k], .pointer (some ⟨lk, 0, none⟩)] wr (Ret wr (.bool (D p)))) := hid HDP.out
   clear hc e
   by_cases hpe : p = m
   ·have HDT := hid (H2.out p (by omega) hpl)
    rw [HDT.out] at HDP
    have hne : ¬ m = ds.length := by omega
    have HRE : Hid (R = (p : Int)) := hid (by rw [HRR.out, if_neg hne, hpe])
    clear hpe hne
    go_wp2_with fail
    with_reducible refine HDP.out.mono ?_
    rintro e w6 ⟨rfl, hb6⟩
    have HB6 := hid (HB.out.trans (hb6.mono HB.out.size))
    clear hb6 k0 k1 k2 k3 k4 k5
    go_wp2
    go_ret
    exact ⟨by rw [HRE.out]; rfl, HB6.out⟩
   ·have HDT := hid (H1.out p (by omega))
    rw [HDT.out] at HDP
    have hlt : p < m := by omega
    clear hpe
    go_wp2_with fail
    with_reducible refine HDP.out.mono ?_
    rintro e w6 ⟨rfl, hb6⟩
    have HB6 := hid (HB.out.trans (hb6.mono HB.out.size))
    clear hb6 k0 k1 k2 k3 k4 k5
    go_wp2_with fail
    go_roundg (gk - 1)
    case rel => exact ⟨p + 1, by go_num, by omega, by omega, HB6⟩
    case measure => omega
  ·obtain rfl : gk = 0 := by omega
   obtain rfl : p = ds.length := by omega
   have HRE : Hid (R = -1) := hid (by rw [HRR.out, if_pos (by omega)])
   go_wp2
   go_ret
   exact ⟨by rw [HRE.out]; rfl, HB.out⟩
end Go.Proofs.YtikiimlmoalbcaaGreatDoor

namespace Go.Proofs.YtikiimlmoalbcaaGreatDoor
open Go.RowKit
structure HtsRd (B : Nat) (W : World) (v : Value) (den : Nat → Nat → Nat) (cs : List Cv) (f : Nat → Nat) (H : List Nat) (ds : List Mq) : Prop where
  mem : InK 6 W (fun k => B ≤ k ∧ k < W.heap.size) v ds.length (encF encQ default ds)
  nu : ∀ x ∈ ds, Fr.Rd32 W (.slice x.1.nu.1 (Fr.dig x.1.p).length x.1.nu.2) (Fr.dig x.1.p)
  de : ∀ x ∈ ds, Fr.Rd32 W (.slice x.1.de.1 (Fr.dig x.1.q).length x.1.de.2) (Fr.dig x.1.q)
  far : ∀ x ∈ ds, ∀ R, R < B → Fr.Off R (.slice x.1.nu.1 (Fr.dig x.1.p).length x.1.nu.2) ∧ Fr.Off R (.slice x.1.de.1 (Fr.dig x.1.q).length x.1.de.2)
  sml : ∀ x ∈ ds, Fr.Sml x.1.p x.1.q
  of : HitsOf den cs f ds
  cols : ds.map (colQ cs) = H
section
variable {B B' : Nat} {W W' : World} {v : Value} {den : Nat → Nat → Nat} {cs : List Cv} {f : Nat → Nat} {H : List Nat} {ds : List Mq}
theorem HtsRd.later (h : HtsRd B W v den cs f H ds) (hb : Below W.heap.size W W') : HtsRd B W' v den cs f H ds :=
  ⟨(InK.keep h.mem fun p hp => hb.cell (p := p) hp.2).more fun k hk => ⟨hk.1, Nat.lt_of_lt_of_le hk.2 hb.size⟩, fun x hx => (h.nu x hx).kept hb, fun x hx => (h.de x hx).kept hb, h.far, h.sml, h.of, h.cols⟩
theorem HtsRd.set (h : HtsRd B W v den cs f H ds) {x : Addr} (hx : x.block < B) (u : Value) : HtsRd B (W.setCell x u) v den cs f H ds :=
  ⟨(InK.keep h.mem fun p hp => World.cell?_of_block (Below.heap_setCell _ _ _ _ (by have := hp.1; omega))).more fun k hk => ⟨hk.1, by simpa using hk.2⟩, fun y hy => (h.nu y hy).setCell (h.far y hy _ hx).1, fun y hy => (h.de y hy).setCell (h.far y hy _ hx).2, h.far, h.sml, h.of, h.cols⟩
theorem HtsRd.base (h : HtsRd B W v den cs f H ds) (hB : B' ≤ B) : HtsRd B' W v den cs f H ds := ⟨h.mem.more fun k hk => ⟨Nat.le_trans hB hk.1, hk.2⟩, h.nu, h.de, fun x hx R hR => h.far x hx R (Nat.lt_of_lt_of_le hR hB), h.sml, h.of, h.cols⟩
theorem HtsRd.rd (h : HtsRd B W v den cs f H ds) : ∀ x ∈ ds, Fr.RdF W x.1.fr false x.1.p x.1.q := fun x hx => ⟨_, _, _, _, rfl, h.nu x hx, h.de x hx⟩
theorem HtsRd.len (h : HtsRd B W v den cs f H ds) : ds.length = H.length := by rw [← h.cols, List.length_map]
theorem HtsRd.nil0 (B : Nat) (W : World) (den : Nat → Nat → Nat) (cs : List Cv) (f : Nat → Nat) : HtsRd B W (.slice none 0 0) den cs f [] [] :=
  ⟨InK.nil, fun _ h => absurd h (by simp), fun _ h => absurd h (by simp), fun _ h => absurd h (by simp), fun _ h => absurd h (by simp), fun _ h => absurd h (by simp), rfl⟩
theorem HtsOf.rd (h : HtsOf B W v den cs f H ds) : HtsRd B W v den cs f H ds :=
  ⟨h.row.read, fun x hx => (h.row.good x hx).nu, fun x hx => (h.row.good x hx).de, h.row.far, fun x hx => (h.row.good x hx).sml, h.of, h.cols⟩
theorem encQ_take (ds : List Mq) {m i : Nat} (hi : i < m) (j : Nat) : encF encQ default (ds.take m) i j = encF encQ default ds i j := by
  simp [encF, List.getD, List.getElem?_take, hi]
theorem HtsRd.take (h : HtsRd B W v den cs f H ds) {a : Option Addr} {c n : Nat} (hv : v = .slice a ds.length c) (hn : n ≤ ds.length) : HtsRd B W (.slice a n c) den cs f (H.take n) (ds.take n) := by
  have hl : (ds.take n).length = n := by rw [List.length_take]; omega
  refine ⟨?_, fun x hx => h.nu x (List.mem_of_mem_take hx), fun x hx => h.de x (List.mem_of_mem_take hx), fun x hx => h.far x (List.mem_of_mem_take hx), fun x hx => h.sml x (List.mem_of_mem_take hx), fun x hx => h.of x (List.mem_of_mem_take hx), by rw [List.map_take, h.cols]⟩
  obtain ⟨a', c', e, h1, h2, h3⟩ := h.mem
  rw [hv] at e
  obtain ⟨rfl, -, rfl⟩ := Value.slice.inj e
  rw [hl]
  refine ⟨a, c, rfl, by omega, h2, fun h0 => ?_⟩
  obtain ⟨b, o, e, hb, hc⟩ := h3 (by omega)
  exact ⟨b, o, e, hb, fun i hi j hj => by rw [hc i (by omega) j hj, encQ_take ds hi]⟩
end
theorem heap_setCells (b k : Nat) (hk : k ≠ b) : ∀ (L : List Value) (o : Nat) (w : World), (w.setCells b o L).heap[k]? = w.heap[k]?
  | [], _, _ => rfl
  | v :: r, o, w => by
    have h := heap_setCells b k hk r (o + 1) (w.setCell ⟨b, o, none⟩ v)
    rw [Below.heap_setCell _ _ _ _ (by show k ≠ b; exact hk)] at h
    exact h
theorem size_setCells (b : Nat) : ∀ (L : List Value) (o : Nat) (w : World), (w.setCells b o L).heap.size = w.heap.size
  | [], _, _ => rfl
  | v :: r, o, w => by
    have h := size_setCells b r (o + 1) (w.setCell ⟨b, o, none⟩ v)
    rw [World.size_setCell] at h
    exact h
theorem bar_setCells (w : World) (b o : Nat) (L : List Value) : Bar w b (w.setCells b o L) := by
  have h := Go.below_setCells (B := 0) (b := b) (a := w) (Nat.zero_le _) L o w (Below.mono (Below.refl w.heap.size w) (Nat.zero_le _))
  exact ⟨h.os, h.tape, h.output, by rw [size_setCells]; exact Nat.le_refl _, fun k hk hne => heap_setCells b k hne L o w⟩
theorem run_clear_many {P : Program} (w : World) (t e ty : TypeId) (z : Value) (ht : P.underlying t = some (.slice e)) (hv : ∀ w, (zeroValue e).run P w = .ok z w) (b o n c : Nat) (hn : 0 < n) (h1 : ∀ i, i < z.cells.size → (z.cells[i]!).oneCell' = true) (hz : 0 < z.cells.size)
    (hc : ∀ j, j < n * z.cells.size → (w.cell? ⟨b, o + j, none⟩).isSome = true) (hf : ∀ j, j < n * z.cells.size → w.frozen? ⟨b, o + j, none⟩ = false) :
    (Builtin.clear_ #[t] ty #[.slice (some ⟨b, o, none⟩) n c]).run P w = .ok (.tuple #[]) (w.setCells b o (Builtin.zeroCells z.cells n).toList) := by
  have hl : (Builtin.zeroCells z.cells n).toList.length = n * z.cells.size := by simp [Builtin.zeroCells]
  have hst := run_storeCells_cells (P := P) b o (Builtin.zeroCells z.cells n).toList 0 w (by rw [hl]; simpa using hc) (by rw [hl]; simpa using hf) (by
    intro v hv'
    simp only [Builtin.zeroCells, Array.toList_map, List.mem_map] at hv'
    obtain ⟨i, -, rfl⟩ := hv'
    exact h1 _ (Nat.mod_lt _ hz))
  simp only [Nat.add_zero] at hst
  obtain ⟨m, rfl⟩ : ∃ m, n = m + 1 := ⟨n - 1, by omega⟩
  simp [Builtin.clear_, run_underlying ht, hv, hst]
theorem own_row {w : World} {B : Nat} {e : TypeId} {k n g cap : Nat} {xs : List Value} (h : w.ownsRow B e k (.slice (some ⟨g, 0, none⟩) n cap) n xs) : ∃ f, w.rowIs g e (cap * k) f ∧ n ≤ cap ∧ cap ≤ maxLen ∧ B ≤ g := by
  rcases h.2 with ⟨e1, -⟩ | ⟨g', cap', cur, e1, h2, h3, h4, h5, h6, h7⟩
  · cases e1
  · obtain ⟨e2, -, rfl⟩ := Value.slice.inj e1
    cases e2
    exact ⟨fun i => cur.getD i undef, ⟨cur, h3, h6, fun i hi => by have h : i < cur.size := by omega
                                                                   simp [h]⟩, h4, h5, h2⟩
def DelP (B : Nat) (w : World) (v0 : Value) (den : Nat → Nat → Nat) (cs : List Cv) (f : Nat → Nat) (H : List Nat) (ds : List Mq) (m : Nat) (e : Ending) (w' : World) : Prop :=
  ∃ v, e = .returned v ∧ HtsRd B w' v den cs f (H.take m) (ds.take m) ∧ Below B w w' ∧ ∀ k, k < w.heap.size → v0.ownBlock ≠ some k → w'.heap[k]? = w.heap[k]?
set_option maxRecDepth 100000 in
set_option maxHeartbeats 4000000 in
theorem del_hits {B : Nat} {w : World} {v : Value} {den : Nat → Nat → Nat} {cs : List Cv} {f : Nat → Nat} {H : List Nat} {ds : List Mq} (h : HtsOf B w v den cs f H ds) (hB : B ≤ w.heap.size) (hl : ds.length ≤ 1048576) (lk m : Nat) (D : Nat → Bool) (hD : ∀ p, p < ds.length → ∀ W, Below w.heap.size w W → Calls Tryz.prog 120 #[.agg (encM (ds.getD p default).1).toArray, .pointer (some ⟨lk, 0, none⟩)] W (Ret W (.bool (D p))))
  (hm : m ≤ ds.length) (h1 : ∀ p, p < m → D p = false) (h2 : ∀ p, m ≤ p → p < ds.length → D p = true) :
  Calls Tryz.prog 119 #[v, .func (.func 120) #[] #[.pointer (some ⟨lk, 0, none⟩)]] w (DelP B w v den cs f H ds m) := by
 have HIX := hid (idx_hits ds v lk m w D (h.row.read.more fun k hk => hk.2) hl hD hm h1 h2)
 have HAT := hid (fun p W (hp : p < ds.length) (hW : Below w.heap.size w W) => hit_at (InK.keep (w' := W) h.row.read fun x hx => hW.cell (p := x) hx.2) hp)
 have HH := hid h
 have HD := hid hD
 have H2 := hid h2
 obtain ⟨a0, c0, hv⟩ := h.row.slice
 have hcap : ds.length < m + 1 ∨ ∃ g, a0 = some ⟨g, 0, none⟩ ∧ ∃ F, w.rowIs g 53 (c0 * 6) F ∧ ds.length ≤ c0 ∧ c0 ≤ maxLen ∧ B ≤ g := by
  rcases Nat.lt_or_ge ds.length (m + 1) with h0 | h0
  ·exact .inl h0
  ·have hrow := h.row.row
   rw [hv] at hrow
   rcases hrow.2 with ⟨e1, -⟩ | ⟨g', cap', cur, e1, -⟩
   ·obtain ⟨-, e2, -⟩ := Value.slice.inj e1
    omega
   ·obtain ⟨rfl, -, rfl⟩ := Value.slice.inj e1
    exact .inr ⟨g', rfl, own_row hrow⟩
 subst hv
 clear hD h1 h2 h
 go_enter Tryz.func119, Tryz.ntmps119
 generalize hLA : Code.loop _ = LA
 go_wp2_with fail
 with_reducible refine HIX.out.mono ?_
 rintro e w1 ⟨rfl, hb1⟩
 have HB1 := hid hb1
 clear hb1
 by_cases hml : m = ds.length
 ·have HEND : Hid (DelP B w (.slice a0 ds.length c0) den cs f H ds m (.returned (.slice a0 ds.length c0)) w1) := hid ⟨_, rfl, by
   rw [hml, List.take_length, show H.take ds.length = H by rw [HH.out.len, List.take_length]]
   exact (HH.out.later HB1.out).rd, HB1.out.mono hB, fun k hk _ => HB1.out.block k hk⟩
  rw [if_pos hml]
  clear hml hcap
  go_wp2
  go_ret
  exact HEND.out
 ·rw [if_neg hml]
  rcases hcap with h0 | ⟨g, rfl, F, hF, hnc, hcm, hBg⟩
  ·omega
  have HROW := hid hF
  have hml1 : m < ds.length := by omega
  have hml2 : (m : Int) < (ds.length : Int) := by omega
  have hgl : g < w.heap.size := hF.lt
  have hne : ¬ (m : Int) = -1 := by omega
  unfold maxLen at hcm
  clear hml hF
  go_wp2_with fail
  subst hLA
  go_loopg [5, 6, 7] (ds.length - (m + 1)) (fun K i j u7 wr => i = .int .i64 (m : Int) ∧ ∃ p : Nat, j = .int .i64 (p : Int) ∧ p + K = ds.length ∧ m ≤ p ∧ Hid (Below w.heap.size w wr))
  case atStart => exact ⟨rfl, m + 1, by go_num, by omega, by omega, HB1⟩
  case round =>
   obtain ⟨rfl, p, rfl, hp0, hmp, HB⟩ := hrel
   by_cases hp : 0 < gk
   ·have hpl : p < ds.length := by omega
    have hpi : (p : Int) < (ds.length : Int) := by omega
    obtain ⟨bb, oo, cc, e, -, hc⟩ := HAT.out p wr hpl HB.out
    obtain ⟨e2, -, rfl⟩ := Value.slice.inj e
    have e3 : bb = g ∧ oo = 0 := by
     have e4 := Option.some.inj e2
     exact ⟨(congrArg Addr.block e4).symm, (congrArg Addr.off e4).symm⟩
    obtain ⟨rfl, rfl⟩ := e3
    have HDP := hid (fun W (hW : Below w.heap.size w W) => HD.out p hpl W hW)
    have HDT := hid (H2.out p hmp hpl)
    rw [HDT.out] at HDP
    generalize (ds.getD p default).1 = y at *
    obtain ⟨ta, ca, ⟨a, c⟩, ⟨b, k⟩, P, Q⟩ := y
    have k0 : wr.cell? ⟨bb, p * 6, none⟩ = some (.int .i64 ta) := by have h3 := hc 0 (by omega); rw [Nat.zero_add, Nat.add_zero] at h3; exact h3
    have k1 : wr.cell? ⟨bb, p * 6 + 1, none⟩ = some (.int .i64 ca) := by have h3 := hc 1 (by omega); rw [Nat.zero_add] at h3; exact h3
    have k2 : wr.cell? ⟨bb, p * 6 + 2, none⟩ = some (.bool false) := by have h3 := hc 2 (by omega); rw [Nat.zero_add] at h3; exact h3
    have k3 : wr.cell? ⟨bb, p * 6 + 3, none⟩ = some (.slice a (Fr.dig P).length c) := by have h3 := hc 3 (by omega); rw [Nat.zero_add] at h3; exact h3
    have k4 : wr.cell? ⟨bb, p * 6 + 4, none⟩ = some (.bool false) := by have h3 := hc 4 (by omega); rw [Nat.zero_add] at h3; exact h3
    have k5 : wr.cell? ⟨bb, p * 6 + 5, none⟩ = some (.slice b (Fr.dig Q).length k) := by have h3 := hc 5 (by omega); rw [Nat.zero_add] at h3; exact h3
    have HDP : Hid (∀ W, Below w.heap.size w W → Calls Tryz.prog 120 #[.agg #[.int .i64 ta, .int .i64 ca, .bool false, .slice a (Fr.dig P).length c, .bool false, .slice b (Fr.dig Q).length k], .pointer (some ⟨lk, 0, none⟩)] W (Ret W (.bool true))) := hid HDP.out
    have HX := BoxN.new wr #[.int .i64 ta, .int .i64 ca, .bool false, .slice a (Fr.dig P).length c, .bool false, .slice b (Fr.dig Q).length k] 53
    have x0 := HX.cell 0 rfl
    have x1 := HX.cell 1 rfl
    have x2 := HX.cell 2 rfl
    have x3 := HX.cell 3 rfl
    have x4 := HX.cell 4 rfl
    have x5 := HX.cell 5 rfl
    have HB5 := hid (HB.out.alloc HB.out.size (.cells #[.int .i64 ta, .int .i64 ca, .bool false, .slice a (Fr.dig P).length c, .bool false, .slice b (Fr.dig Q).length k] 53))
    have HDQ := hid (HDP.out _ HB5.out)
    clear hc e HX e2
    go_wp2_with fail
    with_reducible refine HDQ.out.mono ?_
    rintro e w6 ⟨rfl, hb6⟩
    have HB6 := hid (HB5.out.trans (hb6.mono HB5.out.size))
    clear hb6 k0 k1 k2 k3 k4 k5 x0 x1 x2 x3 x4 x5
    go_wp2_with fail
    go_roundg (gk - 1)
    case rel => exact ⟨rfl, p + 1, by go_num, by omega, by omega, HB6⟩
    case measure => omega
   ·obtain rfl : gk = 0 := by omega
    obtain rfl : p = ds.length := by omega
    have hr := HROW.out.of_block (HB.out.block g hgl)
    have HR := hid hr
    have hcl : ∀ ty, (Builtin.clear_ #[33] ty #[.slice (some ⟨g, m * 6, none⟩) (ds.length - m) (c0 - m)]).run Tryz.prog wr = .ok (.tuple #[]) (wr.setCells g (m * 6) (Builtin.zeroCells #[.int .i64 0, .int .i64 0, .bool false, .slice none 0 0, .bool false, .slice none 0 0] (ds.length - m)).toList) :=
     fun ty => run_clear_many wr _ _ ty _ Tryz.underlying33 (fun w => Tryz.zeroValue53 w) g (m * 6) _ _ (by omega) (by decide) (by decide) (fun t ht => by
      have ht : t < (ds.length - m) * 6 := ht
      rw [HR.out.cell (by omega)]; rfl) (fun t ht => HR.out.frozen _)
    have HBAR := hid (bar_setCells wr g (m * 6) (Builtin.zeroCells #[.int .i64 0, .int .i64 0, .bool false, .slice none 0 0, .bool false, .slice none 0 0] (ds.length - m)).toList)
    have HRS := hid (Go.rowIs_setCells (Builtin.zeroCells #[.int .i64 0, .int .i64 0, .bool false, .slice none 0 0, .bool false, .slice none 0 0] (ds.length - m)).toList (m * 6) wr _ HR.out)
    have HEND : Hid (DelP B w (.slice (some ⟨g, 0, none⟩) ds.length c0) den cs f H ds m (.returned (.slice (some ⟨g, 0, none⟩) m c0)) (wr.setCells g (m * 6) (Builtin.zeroCells #[.int .i64 0, .int .i64 0, .bool false, .slice none 0 0, .bool false, .slice none 0 0] (ds.length - m)).toList)) := hid (by
     have hW := HH.out.later HB.out
     have hml : (ds.take m).length = m := by rw [List.length_take]; omega
     refine ⟨_, rfl, ⟨?_, fun x hx => rd32_bar (hW.row.good x (List.mem_of_mem_take hx)).m.nu HBAR.out (hW.row.good x (List.mem_of_mem_take hx)).m.onu, fun x hx => rd32_bar (hW.row.good x (List.mem_of_mem_take hx)).m.de HBAR.out (hW.row.good x (List.mem_of_mem_take hx)).m.ode, fun x hx => hW.row.far x (List.mem_of_mem_take hx), fun x hx => (hW.row.good x (List.mem_of_mem_take hx)).sml, fun x hx => hW.of x (List.mem_of_mem_take hx), by rw [List.map_take, hW.cols]⟩, ?_, fun k hk hne => ?_⟩
     ·rw [hml]
      refine ⟨some ⟨g, 0, none⟩, c0, rfl, by omega, by unfold maxLen; omega, fun h0 => ⟨g, 0, rfl, ⟨hBg, by rw [size_setCells]; exact HR.out.lt⟩, fun i hi j hj => ?_⟩⟩
      rw [show 0 + i * 6 + j = i * 6 + j by omega, HRS.out.cell (by omega), if_neg (by omega), encQ_take ds hi]
      obtain ⟨bb, oo, cc, e, -, hc⟩ := HAT.out i wr (by omega) HB.out
      obtain ⟨e2, -, -⟩ := Value.slice.inj e
      have e4 := Option.some.inj e2
      obtain rfl : g = bb := congrArg Addr.block e4
      obtain rfl : 0 = oo := congrArg Addr.off e4
      have h3 := hc j hj
      rw [show 0 + i * 6 + j = i * 6 + j by omega, HR.out.cell (by omega)] at h3
      rw [encQ_at ds (by omega)]
      exact h3
     ·exact (HB.out.mono hB).trans (HBAR.out.below (Nat.le_trans hB HB.out.size) hBg)
     ·exact (HBAR.out.block k (Nat.lt_of_lt_of_le hk HB.out.size) (fun e => hne (by rw [e]; rfl))).trans (HB.out.block k hk))
    have hmc1 : ¬ m = c0 := by omega
    have hmc2 : ¬ c0 = m := by omega
    have hmd : (m : Int) ≤ (ds.length : Int) := by omega
    have hmc : (m : Int) ≤ (c0 : Int) := by omega
    have hdc : (ds.length : Int) ≤ (c0 : Int) := by omega
    clear hr
    go_wp2
    go_ret
    exact HEND.out
end Go.Proofs.YtikiimlmoalbcaaGreatDoor

namespace Go.Proofs.YtikiimlmoalbcaaGreatDoor
open Go.RowKit
theorem Bar2.alloc {w W : World} {x y : Nat} (h : Bar2 w x y W) (_ : w.heap.size ≤ W.heap.size) (o : Obj) : Bar2 w x y (W.alloc o) := h.trans (Bar2.of _ _ ((Below.refl W.heap.size W).alloc (Nat.le_refl _) o))
theorem Bar2.drew {w W : World} {x y : Nat} (h : Bar2 w x y W) : Bar2 w x y W.drew := h.trans (Bar2.of _ _ ((Below.refl W.heap.size W).drew))
theorem Bar2.setCell {w W : World} {x y : Nat} (h : Bar2 w x y W) {p : Addr} (hp : w.heap.size ≤ p.block) (v : Value) : Bar2 w x y (W.setCell p v) :=
  ⟨h.os, h.tape, h.output, by simpa using h.size, fun k hk h1 h2 => (Below.heap_setCell _ _ _ _ (by omega)).trans (h.block k hk h1 h2)⟩
def CertP (cs : List Cv) (q : List ByteArray) (Good : List ByteArray → Nat → List Nat → Prop) (B : Nat) (w' : World) (lv cv : Value) : Prop :=
  ∃ (pl : List Nat) (r : Nat) (cols : List Nat), (∀ j, j < pl.length → pl.getD j 0 < (setOfL (allOf cs)).length) ∧ ReadOk cs q (vsOf cs pl) ∧ r ≤ pl.length ∧ InN w' (fun k => B ≤ k ∧ k < w'.heap.size) lv (sortN (pl.take r)) ∧ ColsAt cs B w' cv cols ∧ (Good (vsOf cs pl) r cols ∨ (r = pl.length ∧ cols = []))
def TopP (w : World) (den : Nat → Nat → Nat) (cs : List Cv) (q : List ByteArray) (k : Nat) (e : Ending) (w' : World) : Prop :=
  ∃ (va : Option Addr) (vc : Nat) (H : List Nat) (ds : List Mq) (la ca : Option Addr) (ln lc cn cc : Nat), e = .returned (.tuple #[.slice va ds.length vc, .agg #[.slice la ln lc, .slice ca cn cc]]) ∧ HtsRd w.heap.size w' (.slice va ds.length vc) den cs (comC cs q) H ds ∧ (∀ S, HitsOk den cs q S → H = S.take k) ∧
    ((k = 0 ∧ ln = 0 ∧ cn = 0) ∨ CertP cs q (fun vs r cols => GoodT den cs vs k r cols) w.heap.size w' (.slice la ln lc) (.slice ca cn cc)) ∧ Below w.heap.size w w'
def LeastP (w : World) (den : Nat → Nat → Nat) (cs : List Cv) (q : List ByteArray) (p0 q0 : Nat) (e : Ending) (w' : World) : Prop :=
  ∃ (va : Option Addr) (vc : Nat) (H : List Nat) (ds : List Mq) (la ca : Option Addr) (ln lc cn cc : Nat), e = .returned (.tuple #[.slice va ds.length vc, .agg #[.slice la ln lc, .slice ca cn cc]]) ∧ HtsRd w.heap.size w' (.slice va ds.length vc) den cs (comC cs q) H ds ∧ (∀ S, HitsOk den cs q S → H = S.filter (geU den cs q p0 q0)) ∧
    CertP cs q (fun vs r cols => GoodL den cs vs p0 q0 r cols) w.heap.size w' (.slice la ln lc) (.slice ca cn cc) ∧ Below w.heap.size w w'
section
variable {den : Nat → Nat → Nat} {cs : List Cv} {q vs : List ByteArray} {H : List Nat} {r k p0 q0 : Nat} {cols : List Nat}
theorem known_no {c : Nat} (h : knownB cs vs r cols c = false) : c ∉ cols ∧ bestC cs vs r c ≠ lowC cs vs r c := by
  unfold knownB at h
  rw [Bool.or_eq_false_iff] at h
  exact ⟨of_decide_eq_false h.1, of_decide_eq_false h.2⟩
theorem known_all (hv : ReadOk cs q vs) (hq : q.Nodup) (c : Nat) : knownB cs vs vs.length cols c = true := by
  unfold knownB
  have h := low_all hv hq c
  rw [Bool.or_eq_true]
  exact .inr (decide_eq_true (h.2.trans h.1.symm))
theorem top_fin (hs : Sco q.length den) (hv : ReadOk cs q vs) (hq : q.Nodup) (hH : H.Pairwise (befH den (sizeC cs) (comC cs q))) (hm : ∀ c, c ∈ H ↔ c < cs.length ∧ 0 < comC cs q c ∧ knownB cs vs r cols c = true) (hr : r ≤ vs.length) (hk : 0 < k) (hg : GoodT den cs vs k r cols ∨ (r = vs.length ∧ cols = [])) (S : List Nat) (hS : HitsOk den cs q S) : H.take k = S.take k := by
  rw [known_filter hS (knownB cs vs r cols) hH hm]
  rcases hg with ⟨SS, h1, h2, h3, h4⟩ | ⟨h1, -⟩
  · refine top_early hs hv hq hS hr h1 h2 hk h3 _ fun c hc => ?_
    rw [← h4]
    exact (known_no hc).1
  · rw [List.filter_eq_self.2 fun c _ => by rw [h1]; exact known_all hv hq c]
theorem least_fin (hs : Sco q.length den) (hv : ReadOk cs q vs) (hq : q.Nodup) (hH : H.Pairwise (befH den (sizeC cs) (comC cs q))) (hm : ∀ c, c ∈ H ↔ c < cs.length ∧ 0 < comC cs q c ∧ knownB cs vs r cols c = true) (hr : r ≤ vs.length) (hg : GoodL den cs vs p0 q0 r cols ∨ (r = vs.length ∧ cols = [])) (S : List Nat) (hS : HitsOk den cs q S) : H.filter (geU den cs q p0 q0) = S.filter (geU den cs q p0 q0) := by
  rw [known_filter hS (knownB cs vs r cols) hH hm]
  rcases hg with h1 | ⟨h1, -⟩
  · refine least_early hs hv hq hS hr _ fun c hc hcl h2 => ?_
    obtain ⟨h3, h4⟩ := known_no hc
    apply h3
    rw [h1, upF_mem]
    refine ⟨hcl, ?_⟩
    unfold lstB
    rw [decide_eq_true h2.1, decide_eq_true (show lowC cs vs r c ≠ bestC cs vs r c from fun e => h4 e.symm), decide_eq_true h2.2]
    rfl
  · have e : S.filter (knownB cs vs r cols) = S := List.filter_eq_self.2 fun c _ => by rw [h1]; exact known_all hv hq c
    rw [e]
end
end Go.Proofs.YtikiimlmoalbcaaGreatDoor
