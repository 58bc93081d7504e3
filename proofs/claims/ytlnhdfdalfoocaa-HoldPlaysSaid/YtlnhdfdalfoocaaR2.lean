/- Walks of the reference: oldest. -/
import Derived.Test.YtlnhdfdalfoocaaR1
namespace Go.Proofs.Ytlnhdfdalfoocaa
open Go.RowKit

/-- the first k whens: none yet, or at is the place of the least -/
def Least (l : List Rn) (k : Nat) (at' : Int) : Prop := (k = 0 ∧ at' = -1) ∨ ∃ (j : Nat) (h : j < l.length), j < k ∧ at' = j ∧ ∀ (i : Nat) (hi : i < l.length), i < k → l[j].at' ≤ l[i].at'
set_option maxHeartbeats 2000000 in
theorem oldest_any {br : Nat} {quota now : Int} {l : List Rn} {vk vd vw : Value} {ck cd cw : Nat} (w : World) (h : RAt w br quota now l vk vd vw ck cd cw) (hlen : l.length ≤ 4096) (hpos : 0 < l.length) :
    Calls Try.prog 29 #[.pointer (some ⟨br, 0, none⟩)] w fun e w' => ∃ (j : Nat), e = .returned (.int .i64 j) ∧ (∃ h : j < l.length, ∀ (i : Nat) (hi : i < l.length), l[j].at' ≤ l[i].at') ∧ Kept NoB w w' := by
  obtain ⟨h1, h2, h3, h4, h5⟩ := h
  rcases h4.2 with ⟨_, h, _⟩ | ⟨g1, cur1, rfl, _⟩
  · omega
  have H1 := Lib.hid h1
  have H4 := Lib.hid h4
  obtain ⟨hlt, ⟨c0, c1, c2, c3, c4⟩, f0, f1, f2, f3, f4⟩ := block_cells5 h1
  clear h2 h3 h5 h1 h4
  go_enter Try.func29, Try.ntmps29
  go_wp2_with fail
  go_loopw [3, 4] (fun av iv wr => ∃ (k : Nat) (a : Int), k ≤ l.length ∧ iv = .int .i64 k ∧ av = .int .i64 a ∧ Hid (Least l k a) ∧ Kept NoB w wr) (fun _ iv _ => l.length - (intOf iv).toNat)
  case atStart => exact ⟨0, -1, Nat.zero_le _, rfl, rfl, Lib.hid (.inl ⟨rfl, rfl⟩), Kept.refl _ _⟩
  case round =>
    obtain ⟨k, a, hk, rfl, rfl, hle, hkw⟩ := hrel
    have r1 := hkw.heap H1.out (fun h => h)
    obtain ⟨hltr, ⟨d0, d1, d2, d3, d4⟩, _⟩ := block_cells5 r1
    have r4 := Row.kept H4.out hkw (fun _ _ h => h)
    have HKW := Lib.hid hkw
    clear r1 d0 d1 d3 d4 hkw
    by_cases hkl : k < l.length
    · have z0 := times_get (k := k) r4 (by simpa using hkl)
      rw [List.getElem_map] at z0
      have hti : (k : Int) < (l.length : Int) := by omega
      have ht0 : (0 : Int) ≤ (k : Int) := by omega
      rcases hle.out with ⟨hk0, rfl⟩ | ⟨j, hj, hjk, rfl, hmin⟩
      · have hb : decide ((-1 : Int) < 0) = true := by decide
        clear r4 hle
        go_wp2_with fail
        go_quiet (fail)
        go_wp2_with fail
        go_roundw
        case rel => exact ⟨k + 1, k, by omega, by go_num, rfl, Lib.hid (.inr ⟨k, hkl, by omega, rfl, fun i hi hik => by (have e : i = k := (by omega)); subst e; exact Int.le_refl _⟩), HKW.out.drewN _⟩
        case measure => simp [intOf]; omega
      · have z1 := times_get (k := j) r4 (by simpa using hj)
        rw [List.getElem_map] at z1
        have hb : decide ((j : Int) < 0) = false := decide_eq_false (by omega)
        have hji : (j : Int) < (l.length : Int) := by omega
        have hj0 : (0 : Int) ≤ (j : Int) := by omega
        have HM := Lib.hid hmin
        obtain ⟨x, hx⟩ : ∃ x, l[k].at' = x := ⟨_, rfl⟩
        obtain ⟨y, hy⟩ : ∃ y, l[j].at' = y := ⟨_, rfl⟩
        rw [hx] at z0
        rw [hy] at z1
        have HX := Lib.hid hx
        have HY := Lib.hid hy
        clear r4 hle hmin hx hy
        by_cases hxy : x < y
        · go_wp2_with fail
          go_quiet (fail)
          go_wp2_with fail
          go_roundw
          case rel => exact ⟨k + 1, k, by omega, by go_num, rfl, Lib.hid (.inr ⟨k, hkl, by omega, rfl, fun i hi hik => by
            by_cases e : i = k
            · subst e; exact Int.le_refl _
            · have := HM.out i hi (by omega); rw [HY.out] at this; rw [HX.out]; omega⟩), HKW.out.drewN _⟩
          case measure => simp [intOf]; omega
        · go_wp2_with fail
          go_quiet (fail)
          go_wp2_with fail
          go_roundw
          case rel => exact ⟨k + 1, j, by omega, by go_num, rfl, Lib.hid (.inr ⟨j, hj, by omega, rfl, fun i hi hik => by
            by_cases e : i = k
            · subst e; rw [HX.out, HY.out]; omega
            · exact HM.out i hi (by omega)⟩), HKW.out.drewN _⟩
          case measure => simp [intOf]; omega
    · have hke : k = l.length := by omega
      go_wp2_with fail
      rcases hle.out with ⟨hk0, _⟩ | ⟨j, hj, hjk, rfl, hmin⟩
      · omega
      · go_ret
        exact ⟨j, rfl, ⟨hj, fun i hi => hmin i hi (by omega)⟩, HKW.out⟩
end Go.Proofs.Ytlnhdfdalfoocaa
