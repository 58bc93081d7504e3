/- The walk of the law HoldOwn. -/
import Derived.Test.YtlnhdfdalfoocaaHA
import Derived.Test.YtlnhdfdalfoocaaHOpen
namespace Go.Proofs.Ytlnhdfdalfoocaa
open Go.RowKit

abbrev kK : ByteArray := { data := #[107] }
theorem clampM : clamp 32768 = 32768 := by decide
theorem putK (data : List UInt8) (h : data.length ≤ 1000) : putP 32768 [] kK data = [(kK, data)] := by
  unfold putP
  rw [if_pos (by omega)]
  rfl
theorem othK (data : List UInt8) : othP [(kK, data)] kK ++ [(kK, data)] = [(kK, data)] := by
  unfold othP
  rw [List.filter_cons_of_neg (by simp)]
  rfl
/-- bytes that are numbers -/
def zcells (l : List Int) : List Value := l.map (Value.int .u8)
theorem bcells_z (l : List UInt8) : bcells l = zcells (l.map fun b => (b.toNat : Int)) := by unfold bcells zcells; rw [List.map_map]; rfl
theorem zrow_get {w : World} {g n cap k : Nat} {l : List Int} (hr : Row w 5 1 (.slice (some ⟨g, 0, none⟩) n cap) n cap (zcells l)) (hl : l.length = n) (hk : k < n) : w.cell? ⟨g, k, none⟩ = some (.int .u8 (l[k]'(by omega))) ∧ w.frozen? ⟨g, k, none⟩ = false := by
  obtain ⟨_, ao, c, he, _, hc⟩ := hr.srcFrom 0 cap
  cases he
  have h := hc _ rfl k (.int .u8 (l[k]'(by omega))) (by rw [Nat.zero_mul, List.drop_zero]; simp [zcells, List.getElem?_eq_getElem (show k < l.length by omega)])
  rw [addr_add] at h
  have hcap : n ≤ cap := by
    rcases hr.2 with ⟨h', _⟩ | ⟨_, _, _, _, h', _⟩
    · cases h'
    · exact h'
  obtain ⟨_, _, h2⟩ := hr.there k (by omega)
  exact ⟨by simpa using h, h2⟩
theorem zcells_set (l : List Int) (k : Nat) (z : Int) : (zcells l).set k (.int .u8 z) = zcells (l.set k z) := by unfold zcells; rw [List.map_set]
theorem zrow_set {w : World} {g n cap k : Nat} {l : List Int} (hr : Row w 5 1 (.slice (some ⟨g, 0, none⟩) n cap) n cap (zcells l)) (z : Int) : Row (w.setCell ⟨g, k, none⟩ (.int .u8 z)) 5 1 (.slice (some ⟨g, 0, none⟩) n cap) n cap (zcells (l.set k z)) := by
  rw [← zcells_set]; exact hr.set k _

theorem row_addr {w : World} {e : TypeId} {size n c : Nat} {a : Addr} {xs : List Value} (h : Row w e size (.slice (some a) n c) n c xs) : (Value.slice (some a) n c).ownBlock = some a.block := by
  rcases h.2 with ⟨h', _⟩ | ⟨g, cur, hv, _⟩
  · cases h'
  · cases hv; rfl
theorem hs_put_row {w W W1 : World} {bh : Nat} {quota : Int} {m : List Pr} {ao : Option Addr} {c : Nat} {data : List UInt8} (h : HS w W bh quota m (fun k => (Value.slice ao data.length c).ownBlock = some k)) (key : ByteArray) (hlen : m.length ≤ 4095) (hr : Row W1 5 1 (.slice ao data.length c) data.length c (bcells data)) (hk : Kept NoB W1 W) :
    Calls Try.prog 14 #[.pointer (some ⟨bh, 0, none⟩), .string key, .slice ao data.length c] W fun e w' => e = .returned (.bool (decide ((data.length : Int) ≤ quota))) ∧ HS w w' bh quota (putP quota m key data) (fun k => (Value.slice ao data.length c).ownBlock = some k) ∧ Row w' 5 1 (.slice ao data.length c) data.length c (bcells data) := by
  have hr' := Row.kept hr hk (fun _ _ h => h)
  refine (hs_put h key ao c data hlen hr'.src (fun a ha _ => .inr (by subst ha; exact row_addr hr))).mono ?_
  rintro e w' ⟨he, hs, k⟩
  exact ⟨he, hs, Row.kept hr' k (fun _ h1 h2 => absurd h1 h2)⟩
/-- a loop that turns bytes of the call's own -/
def Turns (w0 wr : World) (v : Value) (n c : Nat) : Prop := ∃ zs : List Int, zs.length = n ∧ Row wr 5 1 v n c (zcells zs) ∧ Kept (fun k => v.ownBlock = some k) w0 wr

set_option maxRecDepth 100000 in
set_option maxHeartbeats 2000000 in
theorem own_long (ao : Option Addr) (c : Nat) (data : List UInt8) (t : Int) (w : World) (hmax : data.length ≤ maxLen) (h : 1000 < data.length) :
    Calls Try.prog 6 #[.slice ao data.length c, .int .u8 t] w fun e w' => e = .returned (.bool true) ∧ Kept NoB w w' := by
  unfold maxLen at hmax
  go_enter Try.func6, Try.ntmps6
  go_wp2_with (go_at_call 21; with_reducible refine (awake_any _).mono ?_; rintro e w3 ⟨rfl, k3⟩)
  go_ret
  exact ⟨rfl, k3⟩

set_option maxRecDepth 100000 in
set_option maxHeartbeats 4000000 in
theorem own_short (ao : Option Addr) (c : Nat) (data : List UInt8) (t : Int) (w : World) (hin : InB w ao data.length data) (h : data.length ≤ 1000) :
    Calls Try.prog 6 #[.slice ao data.length c, .int .u8 t] w fun e w' => e = .returned (.bool true) ∧ Kept NoB w w' := by
  obtain ⟨i0, hi, hz0, hz1, hz2⟩ := info_parts info5
  have HS0 := Lib.hid (hin.2.2.1 c)
  clear hin
  go_enter Try.func6, Try.ntmps6
  go_wp2_with (at_builtin; refine wpList_append_any rfl (.tmp 17) (.tmp 18) 27 rfl 5 i0 _ 1 1 Try.underlying27 hi hz0 hz1 hz2 rfl (by decide) (.slice (some ⟨w.heap.size, 0, none⟩) 0 0) 0 0 [] rfl (Row.laid w 5 1 0 #[] rfl (by decide) _ rfl) _ data.length (bcells data) rfl (HS0.out.kept ((Kept.refl NoB w).alloc _) (fun _ _ h => h)) (bytes_one data) data.length (by omega) (bcells data) rfl (by unfold maxLen; omega) (by omega) ?_; intro a1 c1 w1 hrow1 hgrow1 hat1 _; have HG := Lib.hid (And.intro hrow1 (And.intro hgrow1 hat1)); clear hrow1 hgrow1 hat1)
  obtain ⟨hrow1, hgrow1, hat1⟩ := HG.out
  have hk1 : Kept NoB w w1 := ((Kept.refl NoB w).alloc (.cells #[] 5)).grown hgrow1 (fun k e hlt => by simp [Value.ownBlock] at e; omega)
  have hfr1 : ∀ k, (Value.slice a1 data.length c1).ownBlock = some k → w.heap.size ≤ k ∧ k < w1.heap.size := fun k hk => by
    refine ⟨?_, hrow1.lt k hk⟩
    rcases hat1 with e | e
    · rw [e] at hk; simp [Value.ownBlock] at hk; omega
    · rw [e] at hk; simp at hk; omega
  have HNEW := Lib.hid (hs_new (w := w) 32768 hk1 hfr1)
  have HROW1 := Lib.hid hrow1
  clear HG hrow1 hgrow1 hat1 hk1 hfr1
  rw [clampM] at HNEW
  go_wp2_with (go_at_call 8; with_reducible refine HNEW.out.mono ?_; rintro e w2 ⟨rfl, s2, k2⟩; generalize w1.heap.size = bh at s2; have HPUT := hs_put_row s2 kK (by decide) HROW1.out k2; rw [putK data h, decide_eq_true (show (data.length : Int) ≤ 32768 by omega)] at HPUT; have HP := Lib.hid HPUT; clear s2 k2 HPUT)
  go_wp2_with (go_at_call 14; with_reducible refine HP.out.mono ?_; rintro e w3 ⟨rfl, s3, r3⟩; have S3 := Lib.hid s3; have HR7 := Lib.hid r3; clear s3 r3)
  go_loopw [7] (fun i wr => ∃ k : Nat, k ≤ data.length ∧ i = .int .i64 k ∧ Turns w3 wr (.slice a1 data.length c1) data.length c1) (fun i _ => data.length - (intOf i).toNat)
  case atStart => exact ⟨0, Nat.zero_le _, rfl, data.map (fun b => (b.toNat : Int)), by rw [List.length_map], by rw [← bcells_z]; exact HR7.out, Kept.refl _ _⟩
  case round =>
    obtain ⟨k, hk, rfl, zs, hzl, hrow, hkw⟩ := hrel
    by_cases hlt : k < data.length
    · rcases hrow.2 with ⟨_, h, _⟩ | ⟨g1, cur1, hv1, _⟩
      · omega
      cases hv1
      obtain ⟨z0, q0⟩ := zrow_get hrow hzl hlt
      have HROW := Lib.hid hrow
      have HKW := Lib.hid hkw
      have HZL := Lib.hid hzl
      generalize zs[k] = z at z0
      have hti : (k : Int) < (data.length : Int) := by omega
      clear hrow hkw hzl
      go_wp2_with fail
      go_roundw
      case rel => exact ⟨k + 1, by omega, by go_num, zs.set k _, by rw [List.length_set]; exact HZL.out, zrow_set HROW.out _, HKW.out.setCell (p := ⟨g1, k, none⟩) (fun _ => rfl) _⟩
      case measure => simp [intOf]; omega
    · have hke : k = data.length := by omega
      subst hke
      have S4 := Lib.hid (S3.out.kept hkw (fun _ h => h))
      have HGET : Hid (Calls Try.prog 10 #[.pointer (some ⟨bh, 0, none⟩), .string kK] wr fun e w' => ∃ ay, e = .returned (.tuple #[.slice ay data.length data.length, .bool true]) ∧ Row w' 5 1 (.slice ay data.length data.length) data.length data.length (bcells data) ∧ HS w w' bh 32768 [(kK, data)] (fun k => (Value.slice ay data.length data.length).ownBlock = some k)) :=
        Lib.hid ((hs_get_yes S4.out kK data (by simp) (by simp)).mono fun _ _ ⟨ay, he, hr, hs, _, _⟩ => ⟨ay, he, hr, (othK data ▸ hs).free (fun _ h => .inr h)⟩)
      clear hrow hkw hzl
      go_wp2_with (go_at_call 10; with_reducible refine HGET.out.mono ?_; rintro e w5 ⟨ay, rfl, r5, s5⟩; have S5 := Lib.hid s5; have HR10 := Lib.hid r5; have hc1 := conv_src r5.src; have hc2 := conv_src (HS0.out.kept s5.old (fun _ _ h => h)); clear s5 r5)
      clear hc1 hc2
      go_loopw [10] (fun i wr => ∃ k : Nat, k ≤ data.length ∧ i = .int .i64 k ∧ Turns w5 wr (.slice ay data.length data.length) data.length data.length) (fun i _ => data.length - (intOf i).toNat)
      case atStart => exact ⟨0, Nat.zero_le _, rfl, data.map (fun b => (b.toNat : Int)), by rw [List.length_map], by rw [← bcells_z]; exact HR10.out, Kept.refl _ _⟩
      case round =>
        obtain ⟨k, hk, rfl, zs, hzl, hrow, hkw⟩ := hrel
        by_cases hlt : k < data.length
        · rcases hrow.2 with ⟨_, h, _⟩ | ⟨g1, cur1, hv1, _⟩
          · omega
          cases hv1
          obtain ⟨z0, q0⟩ := zrow_get hrow hzl hlt
          have HROW := Lib.hid hrow
          have HKW := Lib.hid hkw
          have HZL := Lib.hid hzl
          generalize zs[k] = z at z0
          have hti : (k : Int) < (data.length : Int) := by omega
          clear hrow hkw hzl
          go_wp2_with fail
          go_roundw
          case rel => exact ⟨k + 1, by omega, by go_num, zs.set k _, by rw [List.length_set]; exact HZL.out, zrow_set HROW.out _, HKW.out.setCell (p := ⟨g1, k, none⟩) (fun _ => rfl) _⟩
          case measure => simp [intOf]; omega
        · have hke : k = data.length := by omega
          subst hke
          have S6 := Lib.hid (S5.out.kept hkw (fun _ h => h))
          have HGET2 : Hid (Calls Try.prog 10 #[.pointer (some ⟨bh, 0, none⟩), .string kK] wr fun e w' => ∃ ay, e = .returned (.tuple #[.slice ay data.length data.length, .bool true]) ∧ Row w' 5 1 (.slice ay data.length data.length) data.length data.length (bcells data) ∧ HS w w' bh 32768 [(kK, data)] (fun k => (Value.slice ay data.length data.length).ownBlock = some k)) :=
            Lib.hid ((hs_get_yes S6.out kK data (by simp) (by simp)).mono fun _ _ ⟨ay, he, hr, hs, _, _⟩ => ⟨ay, he, hr, (othK data ▸ hs).free (fun _ h => .inr h)⟩)
          clear hrow hkw hzl
          go_wp2_with (go_at_call 10; with_reducible refine HGET2.out.mono ?_; rintro e w7 ⟨az, rfl, r7, s7⟩; have S7 := Lib.hid s7; have HR7b := Lib.hid r7; clear s7 r7)
          go_wp2_with (go_at_call 21; with_reducible refine (awake_any _).mono ?_; rintro e w8 ⟨rfl, k8⟩; have S8 := Lib.hid (S7.out.calm k8); have hc1 := conv_src (Row.kept HR7b.out k8 (fun _ _ h => h)).src; have hc2 := conv_src (HS0.out.kept S8.out.old (fun _ _ h => h)); clear k8)
          go_ret
          exact ⟨rfl, S8.out.old⟩
theorem own_any (ao : Option Addr) (n c : Nat) (data : List UInt8) (t : Int) (w : World) (hin : InB w ao n data) :
    Calls Try.prog 6 #[.slice ao n c, .int .u8 t] w fun e w' => e = .returned (.bool true) ∧ Kept NoB w w' := by
  have hl := hin.1
  have hmax := hin.2.1
  subst hl
  by_cases h : data.length ≤ 1000
  · exact own_short ao c data t w hin h
  · exact own_long ao c data t w hmax (by omega)
end Go.Proofs.Ytlnhdfdalfoocaa
