/- Walks: bytes.Clone, slices.Clip of bytes and of texts. -/
import Derived.Test.YtlnhdfdalfoocaaH2
namespace Go.Proofs.Ytlnhdfdalfoocaa
open Go.RowKit

/-- bytes of the call's own -/
def FreshB (w w' : World) (v : Value) (l : List UInt8) (cap : Nat) : Prop :=
  (∃ ao, v = .slice ao l.length cap) ∧ Row w' 5 1 v l.length cap (bcells l) ∧ Kept NoB w w' ∧ ∀ k, v.ownBlock = some k → w.heap.size ≤ k

set_option maxHeartbeats 1000000 in
theorem clone_any (v : Value) (l : List UInt8) (w : World) (h : Src w 1 v l.length (bcells l)) (hm : l.length ≤ 32768) :
    Calls Try.prog 26 #[v] w fun e w' => ∃ v', e = .returned v' ∧ ∃ cap, FreshB w w' v' l cap := by
  obtain ⟨i0, hi, hz0, hz1, hz2⟩ := info_parts info5
  have hnil := fun (w : World) (a : Option Addr) (n c n' c' : Nat) => Lib.run_eql_slice_nil (P := Try.prog) w 27 5 a n c n' c' Try.underlying27
  have h0 := h
  obtain ⟨hl, ao, c, rfl, hn, hc⟩ := h0
  cases ao with
  | none =>
    have hl0 : l = [] := List.eq_nil_of_length_eq_zero (hn rfl)
    subst hl0
    clear h hn hc hl
    go_enter Try.func26, Try.ntmps26
    go_wp2
    go_ret
    exact ⟨_, rfl, 0, ⟨none, rfl⟩, Row.nil _ _ _, Kept.refl _ _, fun k hk => by simp [Value.ownBlock] at hk⟩
  | some a =>
    have HS := Lib.hid h
    clear h hn hc hl
    go_enter Try.func26, Try.ntmps26
    go_wp2_with (at_builtin; refine wpList_append_any rfl (.tmp 5) (.tmp 6) 27 rfl 5 i0 _ 1 1 Try.underlying27 hi hz0 hz1 hz2 rfl (by decide) (.slice (some ⟨w.heap.size, 0, none⟩) 0 0) 0 0 [] rfl (Row.laid w 5 1 0 #[] rfl (by decide) _ rfl) _ l.length (bcells l) rfl (HS.out.kept ((Kept.refl NoB w).alloc _) (fun _ _ h => h)) (bytes_one l) l.length (by omega) (bcells l) rfl (by unfold maxLen; omega) (by omega) ?_; intro a3 c3 w4 hrow4 hgrow4 hat4 _; have HG := Lib.hid (And.intro hrow4 (And.intro hgrow4 hat4)); clear hrow4 hgrow4 hat4)
    obtain ⟨hrow4, hgrow4, hat4⟩ := HG.out
    go_ret
    refine ⟨.slice a3 l.length c3, rfl, c3, ⟨_, rfl⟩, hrow4, ((Kept.refl NoB w).alloc (.cells #[] 5)).grown hgrow4 (fun k e hlt => ?_), fun k hk => ?_⟩
    · simp [Value.ownBlock] at e; omega
    · rcases hat4 with e | e
      · rw [e] at hk; simp [Value.ownBlock] at hk; omega
      · rw [e] at hk; simp at hk; omega

set_option maxHeartbeats 400000 in
theorem clipb_any (ao : Option Addr) (n cap : Nat) (xs : List Value) (w : World) (hr : Row w 5 1 (.slice ao n cap) n cap xs) (hm : n ≤ 32768) :
    Calls Try.prog 25 #[.slice ao n cap] w fun e w' => e = .returned (.slice ao n n) ∧ w = w' ∧ Row w 5 1 (.slice ao n n) n n xs := by
  have hc : n ≤ cap ∧ Row w 5 1 (.slice ao n n) n n xs := by
    rcases hr.2 with ⟨h, rfl, rfl⟩ | ⟨g, cur, hv, hg, h1, h2, h3, h4⟩
    · exact ⟨Nat.le_refl _, hr⟩
    · cases hv
      exact ⟨h1, hr.1, .inr ⟨g, cur, rfl, hg, Nat.le_refl _, by unfold maxLen; omega, Nat.le_trans (Nat.mul_le_mul_right _ h1) h3, h4⟩⟩
  obtain ⟨hnc, hr2⟩ := hc
  have HR := Lib.hid hr2
  clear hr hr2
  by_cases h0 : n = 0
  · subst h0
    go_enter Try.func25, Try.ntmps25
    go_wp2
    go_ret
    exact ⟨rfl, rfl, HR.out⟩
  · go_enter Try.func25, Try.ntmps25
    go_wp2
    go_ret
    exact ⟨rfl, rfl, HR.out⟩
set_option maxHeartbeats 400000 in
theorem clips_any (ao : Option Addr) (n cap : Nat) (xs : List Value) (w : World) (hr : Row w 9 1 (.slice ao n cap) n cap xs) (hm : n ≤ 32768) :
    Calls Try.prog 31 #[.slice ao n cap] w fun e w' => e = .returned (.slice ao n n) ∧ w = w' ∧ Row w 9 1 (.slice ao n n) n n xs := by
  have hc : n ≤ cap ∧ Row w 9 1 (.slice ao n n) n n xs := by
    rcases hr.2 with ⟨h, rfl, rfl⟩ | ⟨g, cur, hv, hg, h1, h2, h3, h4⟩
    · exact ⟨Nat.le_refl _, hr⟩
    · cases hv
      exact ⟨h1, hr.1, .inr ⟨g, cur, rfl, hg, Nat.le_refl _, by unfold maxLen; omega, Nat.le_trans (Nat.mul_le_mul_right _ h1) h3, h4⟩⟩
  obtain ⟨hnc, hr2⟩ := hc
  have HR := Lib.hid hr2
  clear hr hr2
  by_cases h0 : n = 0
  · subst h0
    go_enter Try.func31, Try.ntmps31
    go_wp2
    go_ret
    exact ⟨rfl, rfl, HR.out⟩
  · go_enter Try.func31, Try.ntmps31
    go_wp2
    go_ret
    exact ⟨rfl, rfl, HR.out⟩
end Go.Proofs.Ytlnhdfdalfoocaa
