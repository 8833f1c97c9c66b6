/- Contract of (*pairing).size: the size of a greatest pairing. -/
import Derived.Test.YtdncdlcfgljheaaGg
namespace Go.Proofs.Ytdncdlcfgljheaa
open Go.RowKit

theorem made_bools (n : Nat) (h : n ≤ 1099511627776) (w : World) :
    (Instr.makeSlice 49 (.int .i64 (n : Int)) (.int .i64 (n : Int))).run Try.prog w = .ok (.slice (some ⟨w.heap.size, 0, none⟩) n n) (w.alloc (.cells (madeCells #[.bool false] n) 4)) :=
  run_make_row' (P := Try.prog) 49 4 (.bool false) 1 Try.underlying49 (by kernel_rfl) rfl .i64 .i64 n (by omega) (by omega) w

/-- the same place with another row of the tried -/
def Pl.at_ (p : Pl) (t : Nat) : Pl := { p with t := t }
structure Pl.Apart3 (p : Pl) : Prop where
  g : p.g < p.A ∨ p.B ≤ p.g
  o : p.o < p.A ∨ p.B ≤ p.o
  f : p.f < p.A ∨ p.B ≤ p.f
  go : p.g ≠ p.o
  gf : p.g ≠ p.f
  of_ : p.o ≠ p.f
theorem Pl.Apart3.all {p : Pl} (h : p.Apart3) {t : Nat} (hB : p.B ≤ t) (hg : p.g < t) (ho : p.o < t) (hf : p.f < t) : (p.at_ t).Apart :=
  ⟨h.g, h.o, h.f, .inr hB, h.go, h.gf, by show p.g ≠ t; omega, h.of_, by show p.o ≠ t; omega, by show p.f ≠ t; omega⟩
theorem PgAt.lts {p : Pl} {E : Nat → List Nat} {w : World} {f : Mt.Of} {F : Nat → Bool} (h : PgAt p E w f F) : p.g < w.heap.size ∧ p.o < w.heap.size ∧ p.f < w.heap.size :=
  ⟨(Array.getElem?_eq_some_iff.1 h.here).1, h.rowO.lt, h.rowF.lt⟩

theorem PgAt.to (t : Nat) {p : Pl} {E : Nat → List Nat} {w : World} {f : Mt.Of} {F : Nat → Bool} (h : PgAt p E w f F) : PgAt (p.at_ t) E w f F := ⟨h.here, h.near, h.low, h.rowO, h.rowF⟩
theorem PgAt.back {t : Nat} {p : Pl} {E : Nat → List Nat} {w : World} {f : Mt.Of} {F : Nat → Bool} (h : PgAt (p.at_ t) E w f F) : PgAt p E w f F := ⟨h.here, h.near, h.low, h.rowO, h.rowF⟩
theorem Pl.Apart3.some {p : Pl} (h : p.Apart3) : (p.at_ (p.B + p.g + p.o + p.f + 1)).Apart := h.all (by omega) (by omega) (by omega) (by omega)
theorem PgAt.setNone3 {p : Pl} {E : Nat → List Nat} {w : World} {f : Mt.Of} {F : Nat → Bool} (h : PgAt p E w f F) (ha : p.Apart3) (j : Nat) : PgAt p E (w.setCell ⟨p.o, j, none⟩ (.int .i64 (-1))) (Mt.upd f j none) F :=
  ((h.to _).setNone ha.some j).back
theorem PgAt.setF3 {p : Pl} {E : Nat → List Nat} {w : World} {f : Mt.Of} {F : Nat → Bool} (h : PgAt p E w f F) (ha : p.Apart3) (j : Nat) (x : Bool) : PgAt p E (w.setCell ⟨p.f, j, none⟩ (.bool x)) f (Mt.mark F j x) :=
  ((h.to _).setF ha.some j x).back

def SizeP (p : Pl) (E : Nat → List Nat) (F : Nat → Bool) (i : Nat) (w : World) (e : Ending) (w' : World) : Prop :=
  ∃ (s : Nat) (f' : Mt.Of), e = .returned (.int .i64 (s : Int)) ∧ PgAt p E w' f' F ∧ Mt.Best ⟨E, F⟩ i p.nq p.nv s ∧ s ≤ p.nv ∧ Roll w.heap.size p.o w w'

theorem tot_le (n : Nat) (f : Mt.Of) : Mt.tot n f ≤ n := by
  have := List.length_filter_le (fun c => (f c).isSome) (List.range n)
  unfold Mt.tot; simpa using this
theorem tot_none (n : Nat) : Mt.tot n (fun _ => none) = 0 := by simp [Mt.tot]

theorem upd_none (f0 : Mt.Of) (k : Nat) : Mt.upd (fun c => if c < k then none else f0 c) k none = fun c => if c < k + 1 then none else f0 c := by
  funext c
  show (if c = k then none else (if c < k then none else f0 c)) = (if c < k + 1 then none else f0 c)
  by_cases e : c = k
  · subst e; simp
  · rw [if_neg e]
    by_cases h : c < k
    · rw [if_pos h, if_pos (by omega)]
    · rw [if_neg h, if_neg (by omega)]

set_option maxRecDepth 100000 in
set_option maxHeartbeats 4000000 in
theorem fuzzy_size (p : Pl) (E : Nat → List Nat) (F : Nat → Bool) (f0 : Mt.Of) (i0 : Nat) (w : World) (ha : p.Apart3) (hti : p.ti = 3) (htb : p.tb = 4) (hnq : p.nq ≤ 1048576) (hnv : p.nv ≤ 1048576) (hE : ∀ x c, c ∈ E x → c < p.nv)
    (hp : PgAt p E w f0 F) (hi0 : i0 ≤ p.nq) :
    Calls Try.prog 20 #[.pointer (some ⟨p.g, 0, none⟩), .int .i64 (i0 : Int)] w (SizeP p E F i0 w) := by
  have HA := hid ha
  have HP := hid hp
  have HE := hid hE
  have hgo := hp.of_
  have hmk := made_bools p.nv (by omega)
  clear ha hp hE
  go_enter Try.func20, Try.ntmps20
  go_wp2
  go_loopg [12] p.nv (fun M c wr => ∃ k : Nat, p.nv - k = M ∧ k ≤ p.nv ∧ c = .int .i64 k ∧ Hid (PgAt p E wr (fun c => if c < k then none else f0 c) F ∧ Roll w.heap.size p.o w wr ∧ wr.heap.size = w.heap.size))
  case atStart => exact ⟨0, by omega, by omega, rfl, hid ⟨by simpa using HP.out, Roll.refl _ _ _, rfl⟩⟩
  case round =>
    clear hgo
    obtain ⟨k, rfl, hk, rfl, hst⟩ := hrel
    obtain ⟨hp, hro, hsz⟩ := hst.out
    have HP1 := hid hp
    have HRO := hid hro
    have HSZ := hid hsz
    have hgo := hp.of_
    have hgn := hp.near_
    clear hp hro hsz hst HP
    by_cases hkl : k < p.nv
    · have hc := HP1.out.rowO.cell hkl
      have hf := HP1.out.rowO.frozen k
      clear hgn
      have HP2 := hid (HP1.out.setNone3 HA.out k)
      have HRO2 := hid (HRO.out.setCell (p := ⟨p.o, k, none⟩) rfl (.int .i64 (-1)))
      have HSZ2 : Hid ((wr.setCell ⟨p.o, k, none⟩ (.int .i64 (-1))).heap.size = w.heap.size) := hid (by rw [World.size_setCell]; exact HSZ.out)
      rw [upd_none] at HP2
      go_wp2
      go_roundg (p.nv - (k + 1))
      case rel => exact ⟨k + 1, by omega, by omega, by go_num, hid ⟨HP2.out, HRO2.out, HSZ2.out⟩⟩
      case measure => omega
    · obtain rfl : k = p.nv := by omega
      have HCG : Hid (∀ W, PgAt p E W (fun c => if c < p.nv then none else f0 c) F → PgAt p E W (fun _ => none) F) := hid (fun W h =>
        ⟨h.here, h.near, h.low, h.rowO.congr (fun c hc => by rw [if_pos hc]), h.rowF⟩)
      have HP2 := hid (HCG.out _ HP1.out)
      clear hgo HP1 hgn
      obtain ⟨nqn, hnqn⟩ : ∃ m, m = p.nq := ⟨_, rfl⟩
      go_wp2
      obtain ⟨w1, hw1⟩ : ∃ w1 : World, w1 = wr := ⟨_, rfl⟩
      subst hw1
      go_loopg [1, 5] (p.nq - i0) (fun M i s wr => ∃ (k : Nat) (f : Mt.Of), p.nq - k = M ∧ i0 ≤ k ∧ k ≤ p.nq ∧ i = .int .i64 k ∧ s = .int .i64 ((Mt.tot p.nv f : Nat) : Int) ∧
        Hid (PgAt p E wr f F ∧ Roll w.heap.size p.o w wr ∧ Mt.Held ⟨E, F⟩ p.nv i0 k f ∧ ∀ j x, f j = some x → x < p.nq))
      case atStart => exact ⟨i0, fun _ => none, by omega, by omega, hi0, rfl, by rw [tot_none]; rfl, hid ⟨HP2.out, HRO.out, Mt.Held.start _ _ _, fun j x h => by cases h⟩⟩
      case round =>
        clear HP2 HRO HSZ HCG
        obtain ⟨k, f, rfl, hk0, hk, rfl, rfl, hst⟩ := hrel
        obtain ⟨hp, hro, hhe, hrw⟩ := hst.out
        have HP1 := hid hp
        have HRO := hid hro
        have HHE := hid hhe
        have HRW := hid hrw
        have hgn := hp.near_
        have hgo := hp.of_
        obtain ⟨fn, ⟨⟨na, nc, hnv_, hnc, hncm, hnx⟩, _⟩, _⟩ := hp.near
        have hplow := hp.low
        have hns : ∃ na nc, p.nval = .slice na p.nq nc := ⟨na, nc, hnv_⟩
        have HNS := hid hns
        obtain ⟨na, nc, hnv2⟩ := hns
        rw [hnv_] at hgn
        have hlts := hp.lts
        have htl := tot_le p.nv f
        clear hp hro hhe hrw hst hnx hnv_ hnv2
        by_cases hkl : k < p.nq
        · have hT0 := World.rowIs_made wr (.bool false) p.nv 4
          have HT0 := hid hT0
          have hal := HA.out.all (t := wr.heap.size) hplow hlts.1 hlts.2.1 hlts.2.2
          have HAL := hid hal
          have HP2 := hid ((HP1.out.below ((Below.refl _ _).alloc (Nat.le_refl _) (.cells (madeCells #[.bool false] p.nv) 4))).to wr.heap.size)
          clear hT0 hal
          have hG : Calls Try.prog 31 #[.pointer (some ⟨p.g, 0, none⟩), .int .i64 (k : Int), .slice (some ⟨wr.heap.size, 0, none⟩) p.nv p.nv] (wr.alloc (.cells (madeCells #[.bool false] p.nv) 4))
              (GrowP (p.at_ wr.heap.size) E F k f (fun _ => false) (wr.alloc (.cells (madeCells #[.bool false] p.nv) 4))) :=
            fuzzy_grow (p.at_ wr.heap.size) E F HAL.out hti htb hnq hnv HE.out (unt p.nv (fun _ => false) + 1) k f (fun _ => false) _ (Nat.lt_succ_self _) hkl HP2.out (by rw [show (p.at_ wr.heap.size).tb = 4 from htb]; exact HT0.out) HRW.out
          have HG := hid hG
          clear hG
          go_wp2_with fail
          with_reducible refine HG.out.mono ?_
          rintro e w3 ⟨b, f', T', rfl, hq⟩
          have HP3 := hid (PgAt.back hq.at_)
          have HRO3 : Hid (Roll w.heap.size p.o w w3) := hid (HRO.out.trans ((Roll.alloc (Roll.refl w.heap.size p.o wr) HRO.out.size (.cells (madeCells #[.bool false] p.nv) 4)).trans
            ⟨hq.two.os, hq.two.tape, hq.two.output, by rw [hq.two.size]; exact Nat.le_refl _, fun x hx hxo => hq.two.block x hxo (by have := HRO.out.size; show x ≠ wr.heap.size; omega)⟩))
          have HY := hid hq.yes
          have HN := hid hq.no
          have HRW3 := hid hq.rows
          clear hq hgn hgo HG HP2 HT0
          cases b with
          | true =>
            have HH := hid (HHE.out.grown hk0 (HY.out rfl))
            have HTT : Hid (Mt.tot p.nv f' = Mt.tot p.nv f + 1) := hid (HY.out rfl).total
            generalize hT1 : Mt.tot p.nv f' = t1 at *
            have HT1 := hid hT1
            clear hT1
            generalize Mt.tot p.nv f = t0 at *
            go_wp2
            go_roundg (p.nq - (k + 1))
            case rel => exact ⟨k + 1, f', by omega, by omega, by omega, by go_num, by rw [HT1.out, HTT.out]; go_num, hid ⟨HP3.out, HRO3.out, HH.out, HRW3.out⟩⟩
            case measure => omega
          | false =>
            obtain ⟨hff, hfail⟩ := HN.out rfl
            subst hff
            have HH := hid (Mt.Held.failed (fun x c he => HE.out x c he.1) HHE.out hk0 hfail)
            clear hfail
            go_wp2
            go_roundg (p.nq - (k + 1))
            case rel => exact ⟨k + 1, f', by omega, by omega, by omega, by go_num, rfl, hid ⟨HP3.out, HRO3.out, HH.out, HRW3.out⟩⟩
            case measure => omega
        · obtain rfl : k = p.nq := by omega
          have HFIN : Hid (SizeP p E F i0 w (.returned (.int .i64 ((Mt.tot p.nv f : Nat) : Int))) wr) := hid ⟨_, f, rfl, HP1.out, HHE.out.best, htl, HRO.out⟩
          generalize Mt.tot p.nv f = s at *
          go_wp2
          go_ret
          exact HFIN.out

end Go.Proofs.Ytdncdlcfgljheaa
