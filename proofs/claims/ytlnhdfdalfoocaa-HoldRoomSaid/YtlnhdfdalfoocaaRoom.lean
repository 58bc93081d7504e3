/- The walk of the law HoldRoom. -/
import Derived.Test.YtlnhdfdalfoocaaHRoom1
import Derived.Test.YtlnhdfdalfoocaaOwn
namespace Go.Proofs.Ytlnhdfdalfoocaa
open Go.RowKit

/-- at the head of a round -/
def Room (w wr : World) (bh : Nat) (m : List Pr) (ak : Option Addr) (ck k : Nat) : Prop :=
  HS w wr bh 32768 m (fun j => (Value.slice ak m.length ck).ownBlock = some j) ∧ Row wr 9 1 (.slice ak m.length ck) m.length ck (kcells (keysP m)) ∧ m.length ≤ k ∧ totP m ≤ 1000 * k
theorem Room.old {w wr : World} {bh : Nat} {m : List Pr} {ak : Option Addr} {ck k : Nat} (h : Room w wr bh m ak ck k) : Kept NoB w wr := h.1.old
theorem Room.begin {w w1 : World} {bh : Nat} (h : HS w w1 bh 32768 [] (fun _ => False)) : Room w (w1.alloc (.cells #[] 9)) bh [] (some ⟨w1.heap.size, 0, none⟩) 0 0 := by
  have hk : Kept NoB w1 (w1.alloc (.cells #[] 9)) := (Kept.refl _ _).alloc _
  exact ⟨h.turned hk (fun _ h => h.elim) (fun k hk => by simp [Value.ownBlock] at hk; subst hk; exact .inr ⟨Nat.le_refl _, by simp⟩), Row.laid w1 9 1 0 #[] rfl (by decide) _ rfl, Nat.le_refl _, Nat.le_refl _⟩
theorem Room.inner {w wr : World} {bh : Nat} {m : List Pr} {ak : Option Addr} {ck k : Nat} (h : Room w wr bh m ak ck k) (x : Act) :
    RS w ((wr.alloc (.cells x.arr 29)).alloc (.cells #[] 9)) bh m (.slice ak m.length ck) m.length ck (keysP m) wr.heap.size x (.slice (some ⟨wr.heap.size + 1, 0, none⟩) 0 0) 0 [] := by
  have hk : Kept NoB wr (wr.alloc (.cells x.arr 29)) := (Kept.refl _ _).alloc _
  have hk2 : Kept NoB wr ((wr.alloc (.cells x.arr 29)).alloc (.cells #[] 9)) := hk.alloc _
  have hs : (wr.alloc (.cells x.arr 29)).heap.size = wr.heap.size + 1 := by simp
  have hs2 : ((wr.alloc (.cells x.arr 29)).alloc (.cells #[] 9)).heap.size = wr.heap.size + 2 := by simp
  have hlt := Row.lt h.2.1
  refine ⟨h.1.turned hk2 (fun _ h => h.elim) (fun k hR => ?_), Row.kept h.2.1 hk2 (fun _ _ h => h), ?_, ?_, fun k hk' => ?_⟩
  · rcases hR with hR | hR | hR
    · exact .inl hR
    · subst hR; exact .inr ⟨Nat.le_refl _, by omega⟩
    · simp [Value.ownBlock] at hR; subst hR; exact .inr ⟨by omega, by omega⟩
  · exact ((Kept.refl NoB _).alloc _).heap (heap_alloc_new wr _) (fun h => h)
  · have := Row.laid (wr.alloc (.cells x.arr 29)) 9 1 0 #[] rfl (by decide) _ rfl
    rw [hs] at this
    exact this
  · simp [Value.ownBlock] at hk'
    subst hk'
    exact ⟨fun e => by have := hlt _ e; omega, by omega⟩
/-- the list of keys, so far -/
def restK (m : List Pr) (key : ByteArray) (t : Nat) : List ByteArray := ((keysP m).take t).filter fun k => decide (k ≠ key)
theorem keysP_length (m : List Pr) : (keysP m).length = m.length := by unfold keysP; rw [List.length_map]
theorem restK_keep (m : List Pr) (key : ByteArray) (t : Nat) (h : t < (keysP m).length) (hk : (keysP m)[t] ≠ key) : restK m key (t + 1) = restK m key t ++ [(keysP m)[t]] := by
  unfold restK
  rw [List.take_succ_eq_append_getElem h, List.filter_append, List.filter_cons_of_pos (by simpa using hk)]
  rfl
theorem restK_skip (m : List Pr) (key : ByteArray) (t : Nat) (h : t < (keysP m).length) (hk : (keysP m)[t] = key) : restK m key (t + 1) = restK m key t := by
  unfold restK
  rw [List.take_succ_eq_append_getElem h, List.filter_append, List.filter_cons_of_neg (by simpa using hk)]
  simp
theorem restK_all (m : List Pr) (key : ByteArray) : restK m key m.length = keysP (othP m key) := by
  unfold restK
  rw [keysP_othP, List.take_of_length_le (by rw [keysP_length]; exact Nat.le_refl _)]
theorem restK_le (m : List Pr) (key : ByteArray) (t : Nat) : (restK m key t).length ≤ m.length := by
  unfold restK
  have h1 := List.length_filter_le (fun k => decide (k ≠ key)) ((keysP m).take t)
  rw [List.length_take, keysP_length] at h1
  omega
/-- the keys, behind a put -/
theorem room_put {w wi w2 : World} {bh : Nat} {m : List Pr} {v : Value} {n c A : Nat} {K : List ByteArray} {x : Act} {ar a2 : Option Addr} {nr cr c2 : Nat} (h : RS w wi bh (othP m x.key ++ [(x.key, x.data)]) v n c K A x (.slice ar nr cr) cr (keysP (othP m x.key))) (hn : nr = (othP m x.key).length)
    (hrow : Row w2 9 1 (.slice a2 (nr + 1) c2) (nr + 1) c2 (kcells (keysP (othP m x.key)) ++ [.string x.key])) (hgrow : (wi.alloc (.cells #[.string x.key] 9)).grownBy w2 (Value.slice ar nr cr).ownBlock)
    (hat : (Value.slice a2 (nr + 1) c2).ownBlock = (Value.slice ar nr cr).ownBlock ∨ (Value.slice a2 (nr + 1) c2).ownBlock = some (wi.alloc (.cells #[.string x.key] 9)).heap.size) :
    RS w w2 bh (othP m x.key ++ [(x.key, x.data)]) v n c K A x (.slice a2 (nr + 1) c2) c2 (keysP (othP m x.key ++ [(x.key, x.data)])) := by
  have h2 := h.app (Kept.refl _ _) (s := x.key) (N := nr + 1) (by rw [List.length_append, keysP_length, hn]; rfl) hrow hgrow hat
  have e : keysP (othP m x.key ++ [(x.key, x.data)]) = keysP (othP m x.key) ++ [x.key] := by unfold keysP; rw [List.map_append]; rfl
  rw [e]
  exact h2
/-- the head of the next round -/
theorem Room.next {w wi : World} {bh : Nat} {m' : List Pr} {v : Value} {n c A : Nat} {K : List ByteArray} {x : Act} {ar : Option Addr} {nr cr k : Nat} (h : RS w wi bh m' v n c K A x (.slice ar nr cr) cr (keysP m')) (hn : nr = m'.length) (hl : m'.length ≤ k) (ht : totP m' ≤ 1000 * k) : Room w wi bh m' ar cr k := by
  subst hn
  obtain ⟨h1, _, _, h4, _⟩ := h
  rw [keysP_length] at h4
  exact ⟨h1.free (fun _ h => .inr (.inr h)), h4, hl, ht⟩
theorem room_in {w : World} {x : Act} (h : x.ok w) : InB w x.ao x.data.length x.data := h.2
theorem row_to {w : World} {v v' : Value} {n n' c : Nat} {xs : List Value} (h : Row w 9 1 v n c xs) (hv : v = v') (hn : n = n') : Row w 9 1 v' n' c xs := by subst hv; subst hn; exact h

set_option maxRecDepth 100000 in
set_option maxHeartbeats 8000000 in
theorem room_some (b off cap : Nat) (l : List Act) (w : World) (hin : ∀ i a, l[i]? = some a → a.ok w ∧ ∀ j u, a.cells[j]? = some u → w.cell? ⟨b, off + (i * 3 + j), none⟩ = some u) :
    Calls Try.prog 5 #[.slice (some ⟨b, off, none⟩) l.length cap] w fun e w' => e = .returned (.bool true) ∧ Kept NoB w w' := by
  obtain ⟨i0, hi, hz0, hz1, hz2⟩ := info_parts info9
  have HIN := Lib.hid hin
  clear hin
  go_enter Try.func5, Try.ntmps5
  go_wp2_with (go_at_call 8; with_reducible refine (hs_new (w := w) (R := fun _ => False) 32768 (Kept.refl _ _) (fun _ h => h.elim)).mono ?_; rintro e w1 ⟨rfl, s1, _⟩; rw [clampM] at s1; generalize w.heap.size = bh at s1; have HB := Lib.hid (Room.begin s1); clear s1)
  go_loopw [4, 5] (fun v i wr => ∃ (k : Nat) (m : List Pr) (ak : Option Addr) (ck : Nat), k ≤ l.length ∧ k ≤ 30 ∧ i = .int .i64 k ∧ v = .slice ak m.length ck ∧ Room w wr bh m ak ck k) (fun _ i _ => 30 - (intOf i).toNat)
  case atStart => exact ⟨0, [], _, 0, Nat.zero_le _, Nat.zero_le _, rfl, rfl, HB.out⟩
  case round =>
    obtain ⟨k, m, ak, ck, hk, hk30, rfl, rfl, hroom⟩ := hrel
    by_cases hlt : k < l.length
    · by_cases h30 : k < 30
      · obtain ⟨x, hx⟩ : ∃ x, l[k] = x := ⟨_, rfl⟩
        obtain ⟨hok, x0, x1, x2⟩ := act_get hroom.old hlt hx HIN.out
        obtain ⟨hw, hinb⟩ := hok
        have hxm := hinb.2.1
        unfold maxLen at hxm
        have HINB := Lib.hid hinb
        have HROOM := Lib.hid hroom
        have hml := hroom.2.2.1
        have hmt := hroom.2.2.2
        clear hx hroom hinb
        by_cases hbig : 1000 < x.data.length
        · go_wp2_with (go_at_call 21; with_reducible refine (awake_any _).mono ?_; rintro e w3 ⟨rfl, k3⟩; have HK3 := Lib.hid (HROOM.out.old.then (((Kept.refl NoB _).alloc _).then k3)); clear k3)
          go_ret
          exact ⟨rfl, HK3.out⟩
        · have hsm : x.data.length ≤ 1000 := by omega
          have hk30b : decide ((k : Int) < 30) = true := decide_eq_true (by omega)
          have hsmb : decide ((1000 : Int) < (x.data.length : Int)) = false := decide_eq_false (by omega)
          have HRS0 := Lib.hid (HROOM.out.inner x)
          have hrl := restK_le m x.key
          go_wp2_with fail
          obtain ⟨wo, hwo⟩ : ∃ wo : World, wo = wr := ⟨_, rfl⟩
          subst hwo
          go_loopw [7, 8] (fun vr j wi => ∃ (t : Nat) (ar : Option Addr) (nr cr : Nat), t ≤ m.length ∧ j = .int .i64 t ∧ vr = .slice ar nr cr ∧ nr ≤ t ∧ Hid (nr = (restK m x.key t).length ∧ RS w wi bh m (.slice ak m.length ck) m.length ck (keysP m) wo.heap.size x (.slice ar nr cr) cr (restK m x.key t))) (fun _ j _ => m.length - (intOf j).toNat)
          case atStart => exact ⟨0, _, 0, 0, Nat.zero_le _, rfl, rfl, Nat.zero_le _, Lib.hid ⟨rfl, HRS0.out⟩⟩
          case round =>
            obtain ⟨t, ar, nr, cr, ht, rfl, rfl, hnr, HRS⟩ := hrel
            obtain ⟨y0, y1, y2⟩ := block_act HRS.out.2.2.2.1
            have hAlt := lt_of_heap HRS.out.2.2.2.1
            by_cases htl : t < m.length
            · have hkr := HRS.out.2.2.1
              rcases hkr.2 with ⟨_, h, _⟩ | ⟨g1, cur1, hv1, _⟩
              · omega
              cases hv1
              have htk : t < (keysP m).length := by rw [keysP_length]; exact htl
              have z0 := texts_get hkr htk
              obtain ⟨s, hs⟩ : ∃ s, (keysP m)[t] = s := ⟨_, rfl⟩
              rw [hs] at z0
              have HSK := Lib.hid hs
              have hti : (t : Int) < (m.length : Int) := by omega
              have ht0 : (0 : Int) ≤ (t : Int) := by omega
              clear hs hkr
              by_cases hkey : s = x.key
              · have hb1 : (s.toList == x.key.toList) = true := by rw [hkey]; simp
                have hb2 : (s.toList != x.key.toList) = false := by rw [hkey]; simp
                have HE := Lib.hid (restK_skip m x.key t htk (by rw [HSK.out]; exact hkey))
                clear hkey
                go_wp2_with fail
                go_quiet (fail)
                go_wp2_with fail
                go_roundw
                case rel => exact ⟨t + 1, ar, nr, cr, by omega, by go_num, rfl, by omega, Lib.hid (by rw [HE.out]; exact ⟨HRS.out.1, HRS.out.2.calm ((Kept.refl _ _).drewN _)⟩)⟩
                case measure => simp [intOf]; omega
              · have hb1 : (s.toList == x.key.toList) = false := (str_ne _ _).2 hkey
                have hb2 : (s.toList != x.key.toList) = true := by rw [bne, hb1]; rfl
                have HE := Lib.hid (restK_keep m x.key t htk (by rw [HSK.out]; exact hkey))
                rw [HSK.out] at HE
                clear hkey
                go_wp2_with fail
                go_quiet (fail)
                go_wp2_with (at_builtin; refine wpList_append_any rfl (.tmp 44) (.tmp 49) 39 rfl 9 i0 _ 1 16 Try.underlying39 hi hz0 hz1 hz2 rfl (by decide) (.slice ar nr cr) nr cr (kcells (restK m x.key t)) rfl (row_to (HRS.out.2.calm (show Kept NoB _ _ from ((Kept.refl _ _).drewN _).alloc (.cells #[.string s] 9))).2.2.2.1 rfl HRS.out.1.symm) _ 1 [.string s] rfl ((Row.laid _ 9 1 1 #[.string s] rfl (by decide) _ rfl).src) (by intro u hu; simp at hu; subst hu; rfl) (nr + 1) rfl (kcells (restK m x.key t) ++ [.string s]) rfl (by unfold maxLen; omega) (by omega) ?_; intro a3 c3 w4 hrow4 hgrow4 hat4 _; have HA4 := Lib.hid (HRS.out.2.app ((Kept.refl _ _).drewN _) (by rw [List.length_append, ← HRS.out.1]; rfl) hrow4 hgrow4 hat4); clear hrow4 hgrow4 hat4)
                go_roundw
                case rel => exact ⟨t + 1, a3, nr + 1, c3, by omega, by go_num, rfl, by omega, Lib.hid (by rw [HE.out]; exact ⟨by rw [List.length_append, ← HRS.out.1]; rfl, HA4.out⟩)⟩
                case measure => simp [intOf]; omega
            · have hte : t = m.length := by omega
              subst hte
              obtain ⟨hnr2, hrs⟩ := HRS.out
              rw [restK_all] at hrs hnr2
              rw [keysP_length] at hnr2
              have HRSA := Lib.hid hrs
              have HNR := Lib.hid hnr2
              clear hrs hnr2 HRS
              have hnl : (othP m x.key).length ≤ m.length := othP_length m x.key
              have hnt : totP (othP m x.key) ≤ totP m := totP_othP m x.key
              have HRL := Lib.hid (by have h := HRSA.out.2.2.2.1; rw [keysP_length, ← HNR.out] at h; exact h : Row wr 9 1 (.slice ar nr cr) nr cr (kcells (keysP (othP m x.key))))
              by_cases hdo : x.what % 4 = 0
              · obtain ⟨pb, hpb⟩ : ∃ pb, decide (nr < m.length) = pb := ⟨_, rfl⟩
                have hhas : hasP m x.key = pb := by rw [hasP_less, ← hpb, HNR.out]
                have HD := hs_drop HRSA.out.hs x.key (by omega)
                rw [hhas] at HD
                have HDD := Lib.hid HD
                clear HD hhas
                go_wp2_with (go_at_call 12; (with_reducible refine HDD.out.mono ?_); rintro e w5 ⟨rfl, s5, k5⟩; have HRS5 := Lib.hid (HRSA.out.step s5 k5); have HRL5 := Lib.hid (row_to (n' := nr) HRS5.out.2.2.2.1 rfl (by rw [keysP_length]; exact HNR.out.symm)); clear s5 k5)
                have HKK : Hid (Calls Try.prog 19 #[.pointer (some ⟨bh, 0, none⟩)] w5 fun e w' => ∃ a, e = .returned (.slice a (nr) (nr)) ∧ Row w' 9 1 (.slice a (nr) (nr)) (nr) (nr) (kcells (keysP (othP m x.key))) ∧ Kept NoB w5 w') :=
                  Lib.hid ((hs_keys HRS5.out.hs (by omega)).mono fun _ _ ⟨v, he, f⟩ => by rw [FreshK, keysP_length, ← HNR.out] at f; obtain ⟨⟨a, rfl⟩, h1, h2, _⟩ := f; exact ⟨a, he, h1, h2⟩)
                go_wp2_with (go_at_call 19; (with_reducible refine HKK.out.mono ?_); rintro e w8 ⟨a8, rfl, r8, k8⟩; have R8 := Lib.hid r8; have K8 := Lib.hid k8; clear r8 k8)
                have HSM := Lib.hid (same_self (.slice a8 (nr) (nr)) (.slice ar nr cr) (nr) _ (keysP (othP m x.key)) w8 (row_to R8.out rfl (by rw [keysP_length, ← HNR.out])) (row_to (Row.kept HRL5.out K8.out (fun _ _ h => h)) rfl (by rw [keysP_length, ← HNR.out])) (by rw [keysP_length]; omega))
                go_wp2_with (go_at_call 18; (with_reducible refine HSM.out.mono ?_); rintro e w9 ⟨rfl, k9⟩; have K9 := Lib.hid (K8.out.then k9); clear k9)
                go_roundw
                case rel => exact ⟨k + 1, othP m x.key, ar, cr, by omega, by omega, by go_num, by rw [HNR.out], Room.next (HRS5.out.calm K9.out) HNR.out (by omega) (by omega)⟩
                case measure => simp [intOf]; omega
              · have HP := hs_put HRSA.out.hs x.key x.ao x.cap x.data (by omega) (src_kept (HINB.out.2.2.1 x.cap) HRSA.out.hs.old (fun _ _ _ h => h)) (fun a ha hpos => .inl (HINB.out.2.2.2 a ha hpos))
                rw [putP_room (by omega), decide_eq_true (show (x.data.length : Int) ≤ 32768 by omega)] at HP
                have HPP := Lib.hid HP
                clear HP
                go_wp2_with (first
                  | (go_at_call 14; (with_reducible refine HPP.out.mono ?_); rintro e w5 ⟨rfl, s5, k5⟩; have HRS5 := Lib.hid (HRSA.out.step s5 k5); have HRL5 := Lib.hid (row_to (n' := nr) HRS5.out.2.2.2.1 rfl (by rw [keysP_length]; exact HNR.out.symm)); clear s5 k5; obtain ⟨y0, y1, y2⟩ := block_act HRS5.out.2.2.1)
                  | (at_builtin; refine wpList_append_any rfl (.tmp 73) (.tmp 76) 39 rfl 9 i0 _ 1 16 Try.underlying39 hi hz0 hz1 hz2 rfl (by decide) (.slice ar nr cr) nr cr (kcells (keysP (othP m x.key))) rfl (Row.kept HRL5.out (S := NoB) ((Kept.refl _ _).alloc (.cells #[.string x.key] 9)) (fun _ _ h => h)) _ 1 [.string x.key] rfl ((Row.laid _ 9 1 1 #[.string x.key] rfl (by decide) _ rfl).src) (by intro u hu; simp at hu; subst hu; rfl) (nr + 1) rfl (kcells (keysP (othP m x.key)) ++ [.string x.key]) rfl (by unfold maxLen; omega) (by omega) ?_; intro a6 c6 w6 hrow6 hgrow6 hat6 _; have HA6 := Lib.hid (room_put HRS5.out HNR.out hrow6 hgrow6 hat6); clear hrow6 hgrow6 hat6))
                have HN6 := Lib.hid (by rw [List.length_append, ← HNR.out]; rfl : (othP m x.key ++ [(x.key, x.data)]).length = nr + 1)
                have HRL6 := Lib.hid (row_to (n' := nr + 1) HA6.out.2.2.2.1 rfl (by rw [keysP_length]; exact HN6.out))
                have HTP := Lib.hid (totP_append (othP m x.key) [(x.key, x.data)])
                have HKK : Hid (Calls Try.prog 19 #[.pointer (some ⟨bh, 0, none⟩)] w6 fun e w' => ∃ a, e = .returned (.slice a (nr + 1) (nr + 1)) ∧ Row w' 9 1 (.slice a (nr + 1) (nr + 1)) (nr + 1) (nr + 1) (kcells (keysP (othP m x.key ++ [(x.key, x.data)]))) ∧ Kept NoB w6 w') :=
                  Lib.hid ((hs_keys HA6.out.hs (by rw [HN6.out]; omega)).mono fun _ _ ⟨v, he, f⟩ => by rw [FreshK, keysP_length, HN6.out] at f; obtain ⟨⟨a, rfl⟩, h1, h2, _⟩ := f; exact ⟨a, he, h1, h2⟩)
                go_wp2_with (go_at_call 19; (with_reducible refine HKK.out.mono ?_); rintro e w8 ⟨a8, rfl, r8, k8⟩; have R8 := Lib.hid r8; have K8 := Lib.hid k8; clear r8 k8)
                have HSM := Lib.hid (same_self (.slice a8 (nr + 1) (nr + 1)) (.slice a6 (nr + 1) c6) (nr + 1) _ (keysP (othP m x.key ++ [(x.key, x.data)])) w8 (row_to R8.out rfl (by rw [keysP_length, HN6.out])) (row_to (Row.kept HRL6.out K8.out (fun _ _ h => h)) rfl (by rw [keysP_length, HN6.out])) (by rw [keysP_length]; rw [HN6.out]; omega))
                go_wp2_with (go_at_call 18; (with_reducible refine HSM.out.mono ?_); rintro e w9 ⟨rfl, k9⟩; have K9 := Lib.hid (K8.out.then k9); clear k9)
                go_roundw
                case rel => exact ⟨k + 1, othP m x.key ++ [(x.key, x.data)], a6, c6, by omega, by omega, by go_num, by rw [HN6.out], Room.next (HA6.out.calm K9.out) HN6.out.symm (by rw [HN6.out, HNR.out]; omega) (by rw [HTP.out]; simp [totP] at hnt hmt ⊢; omega)⟩
                case measure => simp [intOf]; omega
      · have hke : k = 30 := by omega
        subst hke
        have HP := Lib.hid hroom
        clear hroom
        go_wp2_with (go_at_call 21; with_reducible refine (awake_any _).mono ?_; rintro e w3 ⟨rfl, k3⟩; have HK3 := Lib.hid (HP.out.old.then k3); clear k3)
        go_ret
        exact ⟨rfl, HK3.out⟩
    · have hke : k = l.length := by omega
      subst hke
      have HP := Lib.hid hroom
      clear hroom
      go_wp2_with (go_at_call 21; with_reducible refine (awake_any _).mono ?_; rintro e w3 ⟨rfl, k3⟩; have HK3 := Lib.hid (HP.out.old.then k3); clear k3)
      go_ret
      exact ⟨rfl, HK3.out⟩

set_option maxRecDepth 100000 in
set_option maxHeartbeats 2000000 in
theorem room_nil (ao : Option Addr) (cap : Nat) (w : World) :
    Calls Try.prog 5 #[.slice ao 0 cap] w fun e w' => e = .returned (.bool true) ∧ Kept NoB w w' := by
  go_enter Try.func5, Try.ntmps5
  go_wp2_with (go_at_call 8; with_reducible refine (hs_new (w := w) (R := fun _ => False) 32768 (Kept.refl _ _) (fun _ h => h.elim)).mono ?_; rintro e w1 ⟨rfl, s1, k1⟩; have K1 := Lib.hid (k1.alloc (.cells #[] 9)); clear s1 k1)
  go_loopw [5] (fun i wr => i = .int .i64 0 ∧ Kept NoB w wr) (fun i _ => 0)
  case atStart => exact ⟨rfl, K1.out⟩
  case round =>
    obtain ⟨rfl, hkw⟩ := hrel
    have HP := Lib.hid hkw
    clear hkw
    go_wp2_with (go_at_call 21; with_reducible refine (awake_any _).mono ?_; rintro e w3 ⟨rfl, k3⟩; have HK3 := Lib.hid (HP.out.then k3); clear k3)
    go_ret
    exact ⟨rfl, HK3.out⟩
theorem room_any (ao : Option Addr) (n cap : Nat) (l : List Act) (w : World) (h : InActs w ao n l) :
    Calls Try.prog 5 #[.slice ao n cap] w fun e w' => e = .returned (.bool true) ∧ Kept NoB w w' := by
  obtain ⟨rfl, _, h0 | ⟨b, off, rfl, hin⟩⟩ := h
  · rw [h0]; exact room_nil ao cap w
  · exact room_some b off cap l w hin
end Go.Proofs.Ytlnhdfdalfoocaa
