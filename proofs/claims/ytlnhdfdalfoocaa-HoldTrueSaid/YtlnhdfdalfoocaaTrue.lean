/- The walk of the law HoldTrue. -/
import Derived.Test.YtlnhdfdalfoocaaHTrue1
namespace Go.Proofs.Ytlnhdfdalfoocaa
open Go.RowKit

/-- at the head of a round -/
def Tr (l : List Act) (w wr : World) (bh : Nat) (q : Int) (m : List Pr) (k : Nat) : Prop := HS w wr bh (q % 64) m (fun _ => False) ∧ Inv l m k ∧ m.length ≤ k
/-- in the second loop -/
def Tr2 (w wi : World) (bh : Nat) (q : Int) (m : List Pr) (v : Value) (n c j : Nat) : Prop := HS w wi bh (q % 64) (rot m j) (fun k => v.ownBlock = some k) ∧ Row wi 9 1 v n c (kcells (keysP m))
theorem Tr2.calm {w wi w' : World} {bh : Nat} {q : Int} {m : List Pr} {v : Value} {n c j : Nat} (h : Tr2 w wi bh q m v n c j) (hk : Kept NoB wi w') : Tr2 w w' bh q m v n c j := ⟨h.1.calm hk, Row.kept h.2 hk (fun _ _ h => h)⟩
theorem Tr2.get {w wi : World} {bh : Nat} {q : Int} {m : List Pr} {v : Value} {n c j : Nat} (h : Tr2 w wi bh q m v n c j) (hj : j < m.length) (hl : m.length ≤ 4095) (hn : (keysP m).Nodup) :
    Calls Try.prog 10 #[.pointer (some ⟨bh, 0, none⟩), .string m[j].1] wi fun e w' => ∃ a, e = .returned (.tuple #[.slice a m[j].2.length m[j].2.length, .bool true]) ∧ Row w' 5 1 (.slice a m[j].2.length m[j].2.length) m[j].2.length m[j].2.length (bcells m[j].2) ∧ Tr2 w w' bh q m v n c (j + 1) := by
  refine (hs_get_yes h.1 m[j].1 m[j].2 (by rw [rot_length]; exact hl) (rot_mem m j hj)).mono ?_
  rintro e w' ⟨a, he, hr, hs, hk, _⟩
  exact ⟨a, he, hr, (rot_step m j hj hn ▸ hs).free (fun _ h => .inl h), Row.kept h.2 hk (fun _ h1 h2 => absurd h1 h2)⟩
theorem HS.tot {w wr : World} {bh : Nat} {q : Int} {m : List Pr} {R : Nat → Prop} (h : HS w wr bh (q % 64) m R) : totP m ≤ 63 := by
  have := h.2.2.1
  omega
theorem rot_tot (m : List Pr) (j : Nat) : totP (rot m j) = totP m := by
  unfold rot
  rw [totP_append]
  have e : totP m = totP (m.take j) + totP (m.drop j) := by rw [← totP_append, List.take_append_drop]
  omega
/-- the keys, taken as the second loop begins -/
theorem HS.keys6 {w w5 : World} {bh : Nat} {q : Int} {m : List Pr} (h : HS w w5 bh (q % 64) m (fun _ => False)) (hl : m.length ≤ 4095) :
    Calls Try.prog 19 #[.pointer (some ⟨bh, 0, none⟩)] w5 fun e w' => ∃ a, e = .returned (.slice a m.length m.length) ∧ Tr2 w w' bh q m (.slice a m.length m.length) m.length m.length 0 ∧ Kept NoB w5 w' := by
  refine (hs_keys h hl).mono ?_
  rintro e w' ⟨v, he, f⟩
  rw [FreshK, keysP_len] at f
  obtain ⟨⟨a, rfl⟩, h1, h2, h3⟩ := f
  refine ⟨a, he, ⟨?_, h1⟩, h2⟩
  rw [rot_zero]
  exact h.turned h2 (fun _ h => h.elim) (fun k hk => .inr ⟨h3 k hk, h1.lt k hk⟩)

set_option maxRecDepth 100000 in
set_option maxHeartbeats 8000000 in
theorem true_some (q : Int) (b off cap : Nat) (l : List Act) (w : World) (hq : 0 ≤ q ∧ q < 256) (hin : ∀ i a, l[i]? = some a → a.ok w ∧ ∀ j u, a.cells[j]? = some u → w.cell? ⟨b, off + (i * 3 + j), none⟩ = some u) :
    Calls Try.prog 4 #[.int .u8 q, .slice (some ⟨b, off, none⟩) l.length cap] w fun e w' => e = .returned (.bool true) ∧ Kept NoB w w' := by
  have HIN := Lib.hid hin
  clear hin
  obtain ⟨hq0, hq1⟩ := hq
  go_enter Try.func4, Try.ntmps4
  go_wp2_with (go_at_call 8; (with_reducible refine (hs_new (w := w) (R := fun _ => False) (q % 64) (Kept.refl _ _) (fun _ h => h.elim)).mono ?_); rintro e w1 ⟨rfl, s1, _⟩; rw [clamp64] at s1; generalize w.heap.size = bh at s1; have HB := Lib.hid s1; clear s1)
  go_loopw [6] (fun i wr => ∃ (k : Nat) (m : List Pr), k ≤ l.length ∧ k ≤ 40 ∧ i = .int .i64 k ∧ Tr l w wr bh q m k) (fun i _ => 40 - (intOf i).toNat)
  case atStart => exact ⟨0, [], Nat.zero_le _, Nat.zero_le _, rfl, HB.out, Inv.nil l, Nat.le_refl _⟩
  case round =>
    obtain ⟨k, m0, hk, hk40, rfl, htr⟩ := hrel
    have HTR := Lib.hid htr
    have hml0 := htr.2.2
    by_cases hlt : k < l.length
    · by_cases h40 : k < 40
      · obtain ⟨x, hx⟩ : ∃ x, l[k] = x := ⟨_, rfl⟩
        obtain ⟨hok, x0, x1, x2⟩ := act_get htr.1.old hlt hx HIN.out
        have hinb := hok.2
        have hxm := hinb.2.1
        unfold maxLen at hxm
        have HINB := Lib.hid hinb
        have HX := Lib.hid hx
        have hk40b : decide ((k : Int) < 40) = true := decide_eq_true (by omega)
        clear hx hinb htr hok
        by_cases hbig : 1000 < x.data.length
        · go_wp2_with (go_at_call 21; (with_reducible refine (awake_any _).mono ?_); rintro e w3 ⟨rfl, k3⟩; have HK3 := Lib.hid (HTR.out.1.old.then k3); clear k3)
          go_ret
          exact ⟨rfl, HK3.out⟩
        · have hsmb : decide ((1000 : Int) < (x.data.length : Int)) = false := decide_eq_false (by omega)
          have hinv : Inv l (putP (q % 64) m0 x.key x.data) (k + 1) := by rw [← HX.out]; exact HTR.out.2.1.put hlt
          have hlen := putP_length (q % 64) m0 x.key x.data
          have HPUT := Lib.hid (fun (W : World) (hW : Kept NoB wr W) => hs_put (HTR.out.1.calm hW) x.key x.ao x.cap x.data (by omega) (src_kept (HINB.out.2.2.1 x.cap) (HTR.out.1.old.then hW) (fun _ _ _ h => h)) (fun a ha hpos => .inl (HINB.out.2.2.2 a ha hpos)))
          have hlast := putP_last (q % 64) m0 x.key x.data
          have HLAST := Lib.hid hlast
          have HINV := Lib.hid hinv
          clear hinv hlast
          generalize putP (q % 64) m0 x.key x.data = m at HINV hlen HPUT HLAST
          obtain ⟨pb, hpb⟩ : ∃ pb, decide ((x.data.length : Int) ≤ q % 64) = pb := ⟨_, rfl⟩
          rw [hpb] at HPUT
          have HCELLS := Lib.hid (fun (W : World) (hW : Kept NoB w W) => (act_get hW hlt HX.out HIN.out).2.2)
          have HCELLS3 := Lib.hid (fun (W : World) (hW : Kept NoB w W) => (act_get hW hlt HX.out HIN.out).2)
          have HD0 := Lib.hid (HTR.out.1.old.then ((Kept.refl NoB wr).drew))
          go_wp2_with fail
          go_region_held3 (fun W => W.cell? ⟨b, off + k * 3 + 1, none⟩ = some (.string x.key) ∧ W.cell? ⟨b, off + k * 3 + 2, none⟩ = some (.slice x.ao x.data.length x.cap))
            (first | (with_reducible assumption) | (exact HCELLS.out _ kc) | (exact HCELLS.out _ HD0.out))
            (first | (go_at_call 14; (refine (HPUT.out _ ((Kept.refl _ _).drew)).mono ?_); rintro e w5 ⟨rfl, s5, _⟩; have kc := s5.old))
          have S5 := Lib.hid s5
          obtain ⟨x0, x1, x2⟩ := HCELLS3.out _ kc
          have hkeys := keysP_len m
          clear s5 kc
          have HKK := Lib.hid ((S5.out.keys6 (by omega)))
          go_wp2_with (go_at_call 19; (refine HKK.out.mono ?_); rintro e w6 ⟨a6, rfl, t6, k6⟩; have T6 := Lib.hid t6; have K6 := Lib.hid k6; have hold6 := t6.1.old; have hnd := Lib.hid S5.out.2.1; clear t6 k6)
          obtain ⟨x0, x1, x2⟩ := HCELLS3.out _ hold6
          have HO6 := Lib.hid hold6
          clear hold6
          cases pb
          all_goals (first
            | (have hfit := of_decide_eq_true hpb
               obtain ⟨ak, hak⟩ := HLAST.out hfit
               have hmp : 0 < m.length := by have h := congrArg List.length hak; rw [keysP_len] at h; simp at h; omega
               have hn0 : ((m.length : Int) == 0) = false := by rw [beq_eq_false_iff_ne]; omega
               have hwr : IntKind.i64.wrap ((m.length : Int) - 1) = (m.length : Int) - 1 := IntWalk.i64_in _ ⟨by omega, by omega⟩
               have hp0 : (0 : Int) ≤ (m.length : Int) - 1 := by omega
               have hp1 : ((m.length : Int) - 1).toNat = m.length - 1 := by omega
               have hp2 : (m.length : Int) - 1 < (m.length : Int) := by omega
               have hrow := T6.out.2
               rcases hrow.2 with ⟨_, h, _⟩ | ⟨g1, cur1, hv1, _⟩
               · omega
               cases hv1
               have z0 := texts_get (k := m.length - 1) hrow (by rw [keysP_len]; omega)
               have hz : (keysP m)[m.length - 1]'(by rw [keysP_len]; omega) = x.key := by
                 have e : m.length - 1 = ak.length := by have h := congrArg List.length hak; rw [keysP_len] at h; simp at h; omega
                 simp only [hak, e]
                 simp
               rw [hz] at z0
               clear hz hrow)
            | skip)
          all_goals go_wp2_with fail
          all_goals go_quiet (fail)
          all_goals go_wp2_with fail
          all_goals (first
            | (have hg1 : (some ⟨g1, 0, none⟩ : Option Addr) = some ⟨g1, 0, none⟩ := rfl
               generalize hga : (some ⟨g1, 0, none⟩ : Option Addr) = a6 at T6 ⊢
               clear hga hg1 z0)
            | skip)
          all_goals
            go_loopw [9, 10] (fun nv jv wi => ∃ j : Nat, j ≤ m.length ∧ jv = .int .i64 j ∧ nv = .int .i64 (totP (m.take j)) ∧ Tr2 w wi bh q m (.slice a6 m.length m.length) m.length m.length j) (fun _ jv _ => m.length - (intOf jv).toNat)
            case atStart => exact ⟨0, Nat.zero_le _, rfl, rfl, T6.out.calm ((Kept.refl _ _).drewN _)⟩
            case round =>
              obtain ⟨j, hj, rfl, rfl, htr2⟩ := hrel
              have HT2 := Lib.hid htr2
              by_cases hjl : j < m.length
              · have hkr := htr2.2
                rcases hkr.2 with ⟨_, h, _⟩ | ⟨g2, cur2, hv2, _⟩
                · omega
                cases hv2
                have z1 := texts_get hkr (by rw [keysP_len]; exact hjl)
                rw [keysP_get] at z1
                have HGET := Lib.hid (htr2.get hjl (by omega) hnd.out)
                obtain ⟨T, hTl, hTk, hlast, hdat⟩ := HINV.out m[j] (List.getElem_mem hjl)
                have HTOT := Lib.hid (totP_take m j hjl)
                have htl := totP_take_le m (j + 1)
                have htq := HT2.out.1.2.2.1
                have hmj : m[j].2.length ≤ 63 := by have e := totP_take m j hjl; have e2 := HS.tot HT2.out.1; rw [rot_tot m j] at e2; omega
                have htj : totP (m.take j) ≤ 63 := by have e := totP_take_le m j; have e2 := HS.tot HT2.out.1; rw [rot_tot m j] at e2; omega
                have KEYJ := Lib.hid (keysP_get m j (by rw [keysP_len]; exact hjl))
                generalize m[j].1 = key at z1 HGET hlast KEYJ
                generalize m[j].2 = dat at HGET HTOT hdat hmj
                have HLAST2 := Lib.hid hlast
                have HDAT := Lib.hid hdat
                have hji : (j : Int) < (m.length : Int) := by omega
                have hj0 : (0 : Int) ≤ (j : Int) := by omega
                clear hlast hdat hkr htr2 htl htq
                go_wp2_with (go_at_call 10; (refine HGET.out.mono ?_); rintro e w7 ⟨ab, rfl, r7, t7⟩; have R7 := Lib.hid r7; have T7 := Lib.hid t7; clear r7 t7)
                go_loopw [13, 14] (fun lv mv wq => ∃ t : Nat, t ≤ k + 1 ∧ mv = .int .i64 t ∧ lv = .int .i64 (lastOf l key t) ∧ Kept NoB w7 wq) (fun _ mv _ => k + 1 - (intOf mv).toNat)
                case atStart => exact ⟨0, Nat.zero_le _, rfl, rfl, Kept.refl _ _⟩
                case round =>
                  obtain ⟨t, ht, rfl, rfl, hkq⟩ := hrel
                  have HKQ := Lib.hid hkq
                  by_cases htk : t < k + 1
                  · have htll : t < l.length := by omega
                    obtain ⟨y, hy⟩ : ∃ y, l[t] = y := ⟨_, rfl⟩
                    obtain ⟨_, y0, y1, y2⟩ := act_get (T7.out.1.old.then hkq) htll hy HIN.out
                    have z2 := texts_get (T7.out.calm hkq).2 (k := j) (by rw [keysP_len]; exact hjl)
                    rw [KEYJ.out] at z2
                    have hti : (t : Int) ≤ (k : Int) := by omega
                    have htb : decide ((t : Int) ≤ (k : Int)) = true := decide_eq_true hti
                    have htl2 : (t : Int) < (l.length : Int) := by omega
                    have ht0 : (0 : Int) ≤ (t : Int) := by omega
                    have HY := Lib.hid hy
                    clear hkq hy
                    by_cases hkey : y.key = key
                    · have hb1 : (y.key.toList == key.toList) = true := by rw [hkey]; simp
                      have HE := Lib.hid (lastOf_hit l key t htll (by rw [HY.out]; exact hkey))
                      clear hkey
                      go_wp2_with fail
                      go_quiet (fail)
                      go_wp2_with fail
                      go_roundw
                      case rel => exact ⟨t + 1, by omega, by go_num, by rw [HE.out], HKQ.out.drewN _⟩
                      case measure => simp [intOf]; omega
                    · have hb1 : (y.key.toList == key.toList) = false := (str_ne _ _).2 hkey
                      have HE := Lib.hid (lastOf_miss l key t htll (by rw [HY.out]; exact hkey))
                      clear hkey
                      go_wp2_with fail
                      go_quiet (fail)
                      go_wp2_with fail
                      go_roundw
                      case rel => exact ⟨t + 1, by omega, by go_num, by rw [HE.out], HKQ.out.drewN _⟩
                      case measure => simp [intOf]; omega
                  · have hte : t = k + 1 := by omega
                    subst hte
                    rw [HLAST2.out]
                    obtain ⟨y, hy⟩ : ∃ y, l[T] = y := ⟨_, rfl⟩
                    obtain ⟨hyok, y0, y1, y2⟩ := act_get (T7.out.1.old.then hkq) hTl hy HIN.out
                    have hyd : y.data = dat := by rw [← hy]; exact HDAT.out
                    have hT0 : ¬ (T : Int) < 0 := by omega
                    have hTb : decide ((T : Int) < 0) = false := decide_eq_false hT0
                    have hTl2 : (T : Int) < (l.length : Int) := by omega
                    have hT00 : (0 : Int) ≤ (T : Int) := by omega
                    have hkb : decide (((k + 1 : Nat) : Int) ≤ (k : Int)) = false := decide_eq_false (by omega)
                    have HOLDQ := Lib.hid (T7.out.1.old.then hkq)
                    have hc1 : ∀ n, (convert 27 9 (.slice ab dat.length dat.length)).run Try.prog (wr.drewN n) = .ok (.string ⟨dat.toArray⟩) (wr.drewN n) := fun n => conv_src (Row.kept R7.out (hkq.drewN n) (fun _ _ h => h)).src
                    have hc2 : ∀ n, (convert 27 9 (.slice y.ao y.data.length y.cap)).run Try.prog (wr.drewN n) = .ok (.string ⟨y.data.toArray⟩) (wr.drewN n) := fun n => conv_src ((hyok.2.2.2.1 y.cap).kept (HOLDQ.out.drewN n) (fun _ _ h => h))
                    rw [hyd] at y2 hc2
                    have hm63 : (totP (m.take j) : Int) + (dat.length : Int) ≤ 1000 := by omega
                    clear hkq hy hyd hyok
                    go_wp2_with fail
                    go_quiet (fail)
                    go_wp2_with fail
                    go_roundw
                    case rel => exact ⟨j + 1, by omega, by go_num, by rw [HTOT.out]; go_num, T7.out.calm (HKQ.out.drewN _)⟩
                    case measure => simp [intOf]; omega
              · have hje : j = m.length := by omega
                subst hje
                rw [List.take_length]
                have hend := HT2.out.1
                rw [rot_all] at hend
                have HEND := Lib.hid hend
                have hle : (totP m : Int) ≤ q % 64 := hend.2.2.1
                have HU := Lib.hid (hs_used hend (by omega))
                have hjb : decide ((m.length : Int) < (m.length : Int)) = false := decide_eq_false (by omega)
                have hkr := Lib.hid htr2.2
                clear hend htr2
                go_wp2_with (go_at_call 16; (with_reducible refine HU.out.mono ?_); rintro e w8 ⟨rfl, k8⟩; have H8 := Lib.hid (HEND.out.calm k8); have R8 := Lib.hid (Row.kept hkr.out k8 (fun _ _ h => h)); clear k8)
                have HK9 : Hid (Calls Try.prog 19 #[.pointer (some ⟨bh, 0, none⟩)] w8 fun e w' => ∃ a, e = .returned (.slice a m.length m.length) ∧ Row w' 9 1 (.slice a m.length m.length) m.length m.length (kcells (keysP m)) ∧ Kept NoB w8 w') :=
                  Lib.hid ((hs_keys H8.out (by omega)).mono fun _ _ ⟨v, he, f⟩ => by rw [FreshK, keysP_len] at f; obtain ⟨⟨a, rfl⟩, h1, h2, _⟩ := f; exact ⟨a, he, h1, h2⟩)
                go_wp2_with (go_at_call 19; (with_reducible refine HK9.out.mono ?_); rintro e w9 ⟨a9, rfl, r9, k9⟩; have R9 := Lib.hid r9; have K9 := Lib.hid k9; clear r9 k9)
                have HSM := Lib.hid (same_self (.slice a9 m.length m.length) (.slice a6 m.length m.length) m.length m.length (keysP m) w9 (row_as R9.out rfl (keysP_len m).symm) (row_as (Row.kept R8.out K9.out (fun _ _ h => h)) rfl (keysP_len m).symm) (by rw [keysP_len]; omega))
                go_wp2_with (go_at_call 18; (with_reducible refine HSM.out.mono ?_); rintro e wa ⟨rfl, ka⟩; have KA := Lib.hid (K9.out.then ka); clear ka)
                go_roundw
                case rel => exact ⟨k + 1, m, by omega, by omega, by go_num, (H8.out.calm KA.out).free (fun _ h => h.elim), HINV.out, by omega⟩
                case measure => simp [intOf]; omega
      · have hke : k = 40 := by omega
        subst hke
        clear htr
        go_wp2_with (go_at_call 21; (with_reducible refine (awake_any _).mono ?_); rintro e w3 ⟨rfl, k3⟩; have HK3 := Lib.hid (HTR.out.1.old.then k3); clear k3)
        go_ret
        exact ⟨rfl, HK3.out⟩
    · have hke : k = l.length := by omega
      subst hke
      clear htr
      go_wp2_with (go_at_call 21; (with_reducible refine (awake_any _).mono ?_); rintro e w3 ⟨rfl, k3⟩; have HK3 := Lib.hid (HTR.out.1.old.then k3); clear k3)
      go_ret
      exact ⟨rfl, HK3.out⟩

set_option maxRecDepth 100000 in
set_option maxHeartbeats 2000000 in
theorem true_nil (q : Int) (ao : Option Addr) (cap : Nat) (w : World) (hq : 0 ≤ q ∧ q < 256) :
    Calls Try.prog 4 #[.int .u8 q, .slice ao 0 cap] w fun e w' => e = .returned (.bool true) ∧ Kept NoB w w' := by
  obtain ⟨hq0, hq1⟩ := hq
  go_enter Try.func4, Try.ntmps4
  go_wp2_with (go_at_call 8; (with_reducible refine (hs_new (w := w) (R := fun _ => False) (q % 64) (Kept.refl _ _) (fun _ h => h.elim)).mono ?_); rintro e w1 ⟨rfl, s1, k1⟩; have K1 := Lib.hid k1; clear s1 k1)
  go_loopw [6] (fun i wr => i = .int .i64 0 ∧ Kept NoB w wr) (fun i _ => 0)
  case atStart => exact ⟨rfl, K1.out⟩
  case round =>
    obtain ⟨rfl, hkw⟩ := hrel
    have HP := Lib.hid hkw
    clear hkw
    go_wp2_with (go_at_call 21; (with_reducible refine (awake_any _).mono ?_); rintro e w3 ⟨rfl, k3⟩; have HK3 := Lib.hid (HP.out.then k3); clear k3)
    go_ret
    exact ⟨rfl, HK3.out⟩
theorem true_any (q : Int) (ao : Option Addr) (n cap : Nat) (l : List Act) (w : World) (hw : (Lit.int .u8 q).wf = true) (h : InActs w ao n l) :
    Calls Try.prog 4 #[.int .u8 q, .slice ao n cap] w fun e w' => e = .returned (.bool true) ∧ Kept NoB w w' := by
  have e1 : IntKind.u8.min = 0 := rfl
  have e2 : IntKind.u8.max = 255 := rfl
  have h3 : 0 ≤ q ∧ q ≤ 255 := by simpa [Lit.wf, e1, e2] using hw
  obtain ⟨rfl, _, h0 | ⟨b, off, rfl, hin⟩⟩ := h
  · rw [h0]; exact true_nil q ao cap w ⟨h3.1, by omega⟩
  · exact true_some q b off cap l w ⟨h3.1, by omega⟩ hin
end Go.Proofs.Ytlnhdfdalfoocaa
