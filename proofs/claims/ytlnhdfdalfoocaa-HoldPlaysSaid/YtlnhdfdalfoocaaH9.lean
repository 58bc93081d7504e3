/- Walks: same; a Put of bytes that were laid just now; the fixed fact (awake). -/
import Derived.Test.YtlnhdfdalfoocaaH8
import Derived.Laws.BytesString
import Derived.Laws.IdiomStrings
namespace Go.Proofs.Ytlnhdfdalfoocaa
open Go.RowKit

theorem texts_get {w : World} {g n cap k : Nat} {l : List ByteArray} (hr : Row w 9 1 (.slice (some ⟨g, 0, none⟩) n cap) n cap (kcells l)) (hk : k < l.length) : w.cell? ⟨g, k, none⟩ = some (.string l[k]) := by
  obtain ⟨_, ao, c, he, _, hc⟩ := hr.srcFrom 0 cap
  cases he
  have h := hc _ rfl k (.string l[k]) (by rw [Nat.zero_mul, List.drop_zero]; simp [kcells, List.getElem?_eq_getElem hk])
  rw [addr_add] at h
  simpa using h

set_option maxHeartbeats 1000000 in
theorem same_self (v1 v2 : Value) (c1 c2 : Nat) (l : List ByteArray) (w : World) (h1 : Row w 9 1 v1 l.length c1 (kcells l)) (h2 : Row w 9 1 v2 l.length c2 (kcells l)) (hlen : l.length ≤ 4096) :
    Calls Try.prog 18 #[v1, v2] w fun e w' => e = .returned (.bool true) ∧ Kept NoB w w' := by
  obtain ⟨a1, rfl⟩ := h1.form
  obtain ⟨a2, rfl⟩ := h2.form
  go_enter Try.func18, Try.ntmps18
  go_wp2_with fail
  go_loopw [5] (fun i wr => ∃ k : Nat, k ≤ l.length ∧ i = .int .i64 k ∧ Kept NoB w wr) (fun i _ => l.length - (intOf i).toNat)
  case atStart => exact ⟨0, Nat.zero_le _, rfl, Kept.refl _ _⟩
  case round =>
    obtain ⟨k, hk, rfl, hkk⟩ := hrel
    by_cases hlt : k < l.length
    · have r1 := Row.kept h1 hkk (fun _ _ h => h)
      have r2 := Row.kept h2 hkk (fun _ _ h => h)
      rcases r1.2 with ⟨_, h, _⟩ | ⟨g1, cur1, hv1, _⟩
      · omega
      rcases r2.2 with ⟨_, h, _⟩ | ⟨g2, cur2, hv2, _⟩
      · omega
      cases hv1
      cases hv2
      have x0 := texts_get r1 hlt
      have y0 := texts_get r2 hlt
      have hlti : (k : Int) < (l.length : Int) := by omega
      have hk0 : (0 : Int) ≤ (k : Int) := by omega
      generalize l[k] = x at x0 y0
      clear r1 r2 h1 h2
      go_wp2_with fail
      go_quiet (fail)
      go_wp2_with fail
      go_roundw
      case rel => exact ⟨k + 1, by omega, by go_num, hkk.drewN _⟩
      case measure => simp [intOf]; omega
    · go_wp2_with fail
      go_ret
      exact ⟨rfl, hkk⟩
end Go.Proofs.Ytlnhdfdalfoocaa
