/- Contract of the search for a partner: (*pairing).grow. -/
import Derived.Test.YtdncdlcfgljheaaRows
import Derived.Test.YtdncdlcfgljheaaPg
namespace Go.Proofs.Ytdncdlcfgljheaa
open Go.RowKit

set_option maxRecDepth 100000 in
set_option maxHeartbeats 4000000 in
theorem fuzzy_grow (p : Pl) (E : Nat → List Nat) (F : Nat → Bool) (ha : p.Apart) (hti : p.ti = 3) (htb : p.tb = 4) (hnq : p.nq ≤ 1048576) (hnv : p.nv ≤ 1048576) (hE : ∀ x c, c ∈ E x → c < p.nv) (u : Nat) :
    ∀ (i : Nat) (f : Mt.Of) (T : Nat → Bool) (w : World), unt p.nv T < u → i < p.nq → PgAt p E w f F → w.rowIs p.t p.tb p.nv (boV T) → (∀ j x, f j = some x → x < p.nq) →
      Calls Try.prog 31 #[.pointer (some ⟨p.g, 0, none⟩), .int .i64 (i : Int), .slice (some ⟨p.t, 0, none⟩) p.nv p.nv] w (GrowP p E F i f T w) := by
  induction u with
  | zero => intro i f T w hu; omega
  | succ u ih =>
    intro i f T w hu hi hp ht hr
    have IH := hid ih
    have HP := hid hp
    have HT := hid ht
    have HR := hid hr
    have HE := hid hE
    have HA := hid ha
    obtain ⟨fn, ⟨⟨na, nc, hnv_, hnc, hncm, hnx⟩, _⟩, hin0⟩ := hp.near
    obtain ⟨b, o, rfl, hb, hcell⟩ := hnx (by omega)
    have h0 := hcell i hi
    obtain ⟨⟨a4, c4, hfk, hc4, hm4, hx4⟩, hab4⟩ := hin0 i hi
    rw [hfk] at h0 hab4
    have HAB := hid hab4
    have HX4 := hid hx4
    have hp0 := hp.near_
    rw [hnv_] at hp0
    have HEI : Hid (∀ c, c ∈ E i → c < p.nv) := hid (hE i)
    have hNL : (Mt.Net.mk E F).E i = E i := rfl
    have HAL := hid (Mt.Along.start ⟨E, F⟩ f i T)
    clear ih hp ht hr hE hcell hnx hin0 hx4 hfk hab4 hnv_ ha
    unfold maxLen at hm4 hncm
    generalize hl : E i = l at *
    have HL := hid hl
    clear hl hNL
    go_enter Try.func31, Try.ntmps31
    go_wp2
    go_loopg [17] l.length (fun M c wr => ∃ (k : Nat) (T' : Nat → Bool), l.length - k = M ∧ k ≤ l.length ∧ c = .int .i64 k ∧
      Hid (PgAt p E wr f F ∧ wr.rowIs p.t p.tb p.nv (boV T') ∧ Two p.o p.t w wr ∧ Mt.Along ⟨E, F⟩ f i k T T'))
    case atStart => exact ⟨0, T, by omega, by omega, rfl, hid ⟨HP.out, HT.out, Two.refl _ _ _, HAL.out⟩⟩
    case round =>
      clear h0 hp0
      obtain ⟨k, T', rfl, hk, rfl, hst⟩ := hrel
      obtain ⟨hp, ht, htw, hal⟩ := hst.out
      have HP1 := hid hp
      have HT1 := hid ht
      have HTW := hid htw
      have HAL1 := hid hal
      clear hp ht htw hal hst
      have hgp := HP1.out.near_
      have hgo := HP1.out.of_
      have hgf := HP1.out.fixed_
      have HUN : Hid (unt p.nv T' ≤ unt p.nv T) := hid (unt_mono HAL1.out.more)
      by_cases hkl : k < l.length
      · obtain ⟨b4, o4, rfl, hb4, hcell4⟩ := HX4.out (by omega)
        have hbA : p.A ≤ b4 := HAB.out _ _ _ rfl (by omega)
        have hb4o : b4 ≠ p.o := by have := HA.out.o; omega
        have hb4t : b4 ≠ p.t := by have := HA.out.t; omega
        have h4 : wr.cell? ⟨b4, o4 + k, none⟩ = some (.int .i64 ((l.getD k 0 : Nat) : Int)) := (HTW.out.cell (p := ⟨b4, o4 + k, none⟩) hb4o hb4t).trans (hcell4 k hkl)
        have hjv : l.getD k 0 < p.nv := HEI.out _ (by simp [List.getD, hkl])
        have HMEM : Hid (l.getD k 0 ∈ l) := hid (by simp [List.getD, hkl])
        have HSK := hid (fun (hs : T' (l.getD k 0) = true ∨ F (l.getD k 0) = true) => by
          have h := HAL1.out.skip (by show k < (E i).length; rw [HL.out]; exact hkl)
          rw [show (Mt.Net.mk E F).E i = l from HL.out] at h
          exact h hs)
        have HSP := hid (fun (r : Nat) (t2 : Nat → Bool) => by
          have h := HAL1.out.step (r := r) (t2 := t2) (by show k < (E i).length; rw [HL.out]; exact hkl)
          rw [show (Mt.Net.mk E F).E i = l from HL.out] at h
          exact h)
        clear hcell4
        generalize l.getD k 0 = j at *
        have htj := rowT_cell HT1.out hjv
        have hfj := HP1.out.rowF.cell hjv
        have hfj' : wr.cell? ⟨p.f, j, none⟩ = some (.bool (F j)) := hfj
        clear hfj
        generalize hln : l.length = ln at *
        have HLN := hid hln
        clear hln
        cases hTj : T' j with
        | true =>
          rw [hTj] at htj
          have HTJ := hid hTj
          clear hTj
          go_wp2
          go_roundg (ln - (k + 1))
          case rel => exact ⟨k + 1, T', by omega, by omega, by go_num, hid ⟨HP1.out, HT1.out, HTW.out, HSK.out (.inl HTJ.out)⟩⟩
          case measure => omega
        | false =>
          rw [hTj] at htj
          have HTJ := hid hTj
          clear hTj
          cases hFj : F j with
          | true =>
            rw [hFj] at hfj'
            have HFJ := hid hFj
            clear hFj
            go_wp2
            go_roundg (ln - (k + 1))
            case rel => exact ⟨k + 1, T', by omega, by omega, by go_num, hid ⟨HP1.out, HT1.out, HTW.out, HSK.out (.inr HFJ.out)⟩⟩
            case measure => omega
          | false =>
            rw [hFj] at hfj'
            have HFJ := hid hFj
            clear hFj
            have hft := HT1.out.frozen j
            have n1 := HA.out.gt
            have n2 := HA.out.ot
            have n3 := HA.out.go
            have HP2 := hid (HP1.out.setT HA.out j (.bool true))
            have HT2 := hid (rowT_set HT1.out j)
            have HTW2 := hid (HTW.out.right j (.bool true))
            have ho : wr.cell? ⟨p.o, j, none⟩ = some (ofV (f j)) := HP1.out.rowO.cell hjv
            cases hfv : f j with
            | none =>
              rw [hfv] at ho
              unfold ofV at ho
              have HFV := hid hfv
              have hfo := HP1.out.rowO.frozen j
              clear hfv
              have HTI : Hid (T j = false) := hid (by
                cases e : T j with
                | false => rfl
                | true => have := HAL1.out.more j e; rw [HTJ.out] at this; cases this)
              have HFIN : Hid (GrowP p E F i f T w (.returned (.bool true)) ((wr.setCell ⟨p.t, j, none⟩ (.bool true)).setCell ⟨p.o, j, none⟩ (.int .i64 (i : Int)))) := hid
                ⟨true, Mt.upd f j (some i), Mt.mark T' j true, rfl, HP2.out.setO HA.out j i, HT2.out.setOther (by exact fun e => HA.out.ot e.symm) _, HTW2.out.left j _,
                  fun _ => Mt.Grown.free hjv ⟨by show j ∈ E i; rw [HL.out]; exact HMEM.out, HFJ.out⟩ HTI.out HFV.out, (fun h => by cases h), fun c x h => by
                    unfold Mt.upd at h
                    by_cases e : c = j
                    · rw [if_pos e] at h; injection h with h; omega
                    · rw [if_neg e] at h; exact HR.out c x h⟩
              go_wp2
              go_ret
              exact HFIN.out
            | some r =>
              rw [hfv] at ho
              unfold ofV at ho
              have HFV := hid hfv
              have hrq := HR.out j r hfv
              have HUM := hid (unt_mark hjv HTJ.out)
              have HMORE := hid HAL1.out.more
              clear hfv
              go_wp2_with fail
              with_reducible refine (IH.out r f (Mt.mark T' j true) _ (by have := HUM.out; have := HUN.out; omega) hrq HP2.out HT2.out HR.out).mono ?_
              rintro e w3 ⟨bb, f', T2, rfl, hq⟩
              have HQ := hid hq
              clear htj hft hfj' hgp hgo hgf h4 ho hq
              cases bb with
              | true =>
                have hgo := HQ.out.at_.of_
                have ho := HQ.out.at_.rowO.cell hjv
                have hfo := HQ.out.at_.rowO.frozen j
                have HTI : Hid (T j = false) := hid (by
                  cases e : T j with
                  | false => rfl
                  | true => have := HMORE.out j e; rw [HTJ.out] at this; cases this)
                have HFIN : Hid (GrowP p E F i f T w (.returned (.bool true)) (w3.setCell ⟨p.o, j, none⟩ (.int .i64 (i : Int)))) := hid
                  ⟨true, Mt.upd f' j (some i), T2, rfl, HQ.out.at_.setO HA.out j i, HQ.out.tried.setOther (by exact fun e => HA.out.ot e.symm) _, (HTW2.out.trans HQ.out.two).left j _,
                    fun _ => Mt.Grown.on hjv ⟨by show j ∈ E i; rw [HL.out]; exact HMEM.out, HFJ.out⟩ HTI.out HFV.out HMORE.out (HQ.out.yes rfl), (fun h => by cases h), fun c x h => by
                      unfold Mt.upd at h
                      by_cases e : c = j
                      · rw [if_pos e] at h; injection h with h; omega
                      · rw [if_neg e] at h; exact HQ.out.rows c x h⟩
                go_wp2
                go_ret
                exact HFIN.out
              | false =>
                obtain ⟨hff, hfail⟩ := HQ.out.no rfl
                subst hff
                have HFAIL := hid hfail
                clear hfail
                go_wp2
                go_roundg (ln - (k + 1))
                case rel => exact ⟨k + 1, T2, by omega, by omega, by go_num, hid ⟨HQ.out.at_, HQ.out.tried, HTW2.out.trans HQ.out.two, HSP.out r T2 HFV.out HFAIL.out⟩⟩
                case measure => omega
      · obtain rfl : k = l.length := by omega
        have HFIN : Hid (GrowP p E F i f T w (.returned (.bool false)) wr) := hid
          ⟨false, f, T', rfl, HP1.out, HT1.out, HTW.out, (fun h => by cases h), fun _ => ⟨rfl, by
            have h := HAL1.out
            rw [← HL.out] at h
            exact Mt.Along.failed (N := ⟨E, F⟩) h⟩, HR.out⟩
        go_wp2
        go_ret
        exact HFIN.out

end Go.Proofs.Ytdncdlcfgljheaa
