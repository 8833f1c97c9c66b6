/- Plain: the pattern of a list of classes, found by a scan with positions. No program in sight. -/
import Derived.Test.YtdncdlcfgljheaaDoorPn
namespace Go.Proofs.YtdncdlcfgljheaaDoor

theorem same_eq (c : Nat) : ∀ (m : Nat) (l : List Nat), (∀ j, j < m → l[j]? = some c) → l[m]? ≠ some c → same c l = m
  | 0, [], _, _ => rfl
  | 0, k :: ks, _, h => by
    unfold same
    rw [if_neg (fun e => h (by rw [e]; rfl))]
  | m + 1, [], h, _ => by have := h 0 (by omega); cases this
  | m + 1, k :: ks, h, h2 => by
    have h0 : k = c := by simpa using h 0 (by omega)
    unfold same
    rw [if_pos h0, same_eq c m ks (fun j hj => by simpa using h (j + 1) (by omega)) (by simpa using h2)]
/-- one step of the scan -/
theorem pat_step (ks : List Nat) (i k c : Nat) (hc : ks[i]? = some c) (hik : i < k) (hk : k ≤ ks.length) (hall : ∀ j, i ≤ j → j < k → ks[j]? = some c) (hone : runC c = false → k = i + 1) (hend : runC c = true → ks[k]? ≠ some c) :
    patL (ks.drop i) = (if i + 1 < k then [c, 43] else [c]) ++ patL (ks.drop k) := by
  have hi : i < ks.length := by omega
  have e : ks.drop i = c :: ks.drop (i + 1) := by
    rw [List.drop_eq_getElem_cons hi]
    rw [List.getElem?_eq_getElem hi] at hc
    rw [Option.some.inj hc]
  rw [e]
  cases hr : runC c with
  | false =>
    have := hone hr
    subst this
    rw [patL_one c _ hr, if_neg (by omega)]
    rfl
  | true =>
    have hs : same c (ks.drop (i + 1)) = k - (i + 1) := same_eq c _ _ (fun j hj => by rw [List.getElem?_drop]; exact hall _ (by omega) (by omega)) (by rw [List.getElem?_drop, show i + 1 + (k - (i + 1)) = k by omega]; exact hend hr)
    rw [patL_run c _ hr, hs, List.drop_drop, show i + 1 + (k - (i + 1)) = k by omega]
    by_cases h : i + 1 < k
    · rw [if_pos h, if_neg (by omega)]
    · rw [if_neg h, if_pos (by omega)]
def bytesB (l : List Nat) : ByteArray := ⟨(l.map UInt8.ofNat).toArray⟩
theorem bytesB_nil : bytesB [] = ⟨#[]⟩ := rfl
theorem bytesB_app (a b : List Nat) : bytesB a ++ bytesB b = bytesB (a ++ b) := by
  apply ByteArray.ext
  simp [bytesB, ByteArray.data_append]
theorem patB_bytes (s : ByteArray) : patB s = bytesB (patL ((pts s).map clsN)) := rfl
theorem bytesB_size (l : List Nat) : (bytesB l).size = l.length := by show (List.toArray _).size = _; simp

end Go.Proofs.YtdncdlcfgljheaaDoor
