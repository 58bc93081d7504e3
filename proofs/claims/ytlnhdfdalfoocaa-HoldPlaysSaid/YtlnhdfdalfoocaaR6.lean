/- Walks of the reference: Order. -/
import Derived.Test.YtlnhdfdalfoocaaR5
namespace Go.Proofs.Ytlnhdfdalfoocaa
open Go.RowKit

/-- the keys of those that were used at one time, among the first i -/
def atTime (l : List Rn) (i : Nat) (t : Int) : List ByteArray := ((l.take i).filter fun r => decide (r.at' = t)).map Rn.key
/-- the keys of all times below -/
def upTo (l : List Rn) : Nat → List ByteArray
  | 0 => []
  | t + 1 => upTo l t ++ atTime l l.length (t + 1)
theorem atTime_zero (l : List Rn) (t : Int) : atTime l 0 t = [] := by simp [atTime]
theorem atTime_hit (l : List Rn) (i : Nat) (t : Int) (h : i < l.length) (e : l[i].at' = t) : atTime l (i + 1) t = atTime l i t ++ [l[i].key] := by
  unfold atTime
  rw [List.take_succ_eq_append_getElem h, List.filter_append, List.filter_cons_of_pos (by simpa using e), List.map_append]
  rfl
theorem atTime_miss (l : List Rn) (i : Nat) (t : Int) (h : i < l.length) (e : ¬ l[i].at' = t) : atTime l (i + 1) t = atTime l i t := by
  unfold atTime
  rw [List.take_succ_eq_append_getElem h, List.filter_append, List.filter_cons_of_neg (by simpa using e)]
  simp
theorem atTime_le (l : List Rn) (i : Nat) (t : Int) : (atTime l i t).length ≤ i := by
  unfold atTime
  have h1 := List.length_filter_le (fun r : Rn => decide (r.at' = t)) (l.take i)
  rw [List.length_take] at h1
  rw [List.length_map]
  omega
theorem upTo_le (l : List Rn) (t : Nat) : (upTo l t).length ≤ t * l.length := by
  induction t with
  | zero => simp [upTo]
  | succ t ih =>
    have := atTime_le l l.length (t + 1)
    unfold upTo
    rw [List.length_append, Nat.add_mul]
    omega

/-- the list that is made -/
def Out (w wr : World) (a : Option Addr) (n c : Nat) (L : List ByteArray) : Prop := n = L.length ∧ Row wr 9 1 (.slice a n c) n c (kcells L) ∧ Kept NoB w wr ∧ ∀ k, (Value.slice a n c).ownBlock = some k → w.heap.size ≤ k
theorem Out.calm {w wr w' : World} {a : Option Addr} {n c : Nat} {L : List ByteArray} (h : Out w wr a n c L) (hk : Kept NoB wr w') : Out w w' a n c L := ⟨h.1, Row.kept h.2.1 hk (fun _ _ h => h), h.2.2.1.then hk, h.2.2.2⟩
theorem Out.app {w wr w2 : World} {a a2 : Option Addr} {n c c2 N : Nat} {L : List ByteArray} {s : ByteArray} (h : Out w wr a n c L) (hN : N = n + 1) (hrow : Row w2 9 1 (.slice a2 N c2) N c2 (kcells L ++ [.string s])) (hgrow : (wr.alloc (.cells #[.string s] 9)).grownBy w2 (Value.slice a n c).ownBlock)
    (hat : (Value.slice a2 N c2).ownBlock = (Value.slice a n c).ownBlock ∨ (Value.slice a2 N c2).ownBlock = some (wr.alloc (.cells #[.string s] 9)).heap.size) : Out w w2 a2 N c2 (L ++ [s]) := by
  subst hN
  obtain ⟨h1, h2, h3, h4⟩ := h
  have hk0 : Kept NoB w (wr.alloc (.cells #[.string s] 9)) := h3.alloc _
  refine ⟨by rw [List.length_append, ← h1]; rfl, by rw [kcells_snoc]; exact hrow, hk0.grown hgrow (fun k e hlt => ?_), fun k hk => ?_⟩
  · have := h4 k e; omega
  · rcases hat with e | e
    · exact h4 k (e ▸ hk)
    · rw [e] at hk
      have := hk0.size
      simp only [Option.some.injEq] at hk
      omega

set_option maxRecDepth 100000 in
set_option maxHeartbeats 4000000 in
theorem order_any {br : Nat} {quota : Int} {now : Nat} {l : List Rn} {vk vd vw : Value} {ck cd cw : Nat} (w : World) (h : RAt w br quota now l vk vd vw ck cd cw) (hlen : l.length ≤ 1000) (hnow : now ≤ 1000) :
    Calls Try.prog 20 #[.pointer (some ⟨br, 0, none⟩)] w fun e w' => ∃ a c, e = .returned (.slice a (upTo l now).length c) ∧ Out w w' a (upTo l now).length c (upTo l now) := by
  obtain ⟨i0, hi, hz0, hz1, hz2⟩ := info_parts info9
  obtain ⟨aw, rfl⟩ := h.2.2.2.1.form
  have H := Lib.hid h
  obtain ⟨hlt, ⟨c0, c1, c2, c3, c4⟩, f0, f1, f2, f3, f4⟩ := block_cells5 h.1
  have HB0 := Lib.hid (show Out w (w.alloc (.cells #[] 9)) (some ⟨w.heap.size, 0, none⟩) 0 0 [] from ⟨rfl, Row.laid w 9 1 0 #[] rfl (by decide) _ rfl, (Kept.refl _ _).alloc _, fun k hk => by simp [Value.ownBlock] at hk; omega⟩)
  clear h
  go_enter Try.func20, Try.ntmps20
  go_wp2_with fail
  go_loopw [3, 4] (fun ov tv wr => ∃ (t n c : Nat) (a : Option Addr), t ≤ now ∧ tv = .int .i64 ((t : Int) + 1) ∧ ov = .slice a n c ∧ n ≤ t * l.length ∧ Hid (Out w wr a n c (upTo l t))) (fun _ tv _ => now + 1 - (intOf tv).toNat)
  case atStart => exact ⟨0, 0, 0, _, Nat.zero_le _, rfl, rfl, Nat.zero_le _, HB0⟩
  case round =>
    obtain ⟨t, n, c, a, ht, rfl, rfl, hn, HO⟩ := hrel
    have HR := Lib.hid (H.out.calm HO.out.2.2.1)
    obtain ⟨hltr, ⟨d0, d1, d2, d3, d4⟩, _⟩ := block_cells5 HR.out.1
    have htl : t * l.length ≤ 1000 * 1000 := Nat.mul_le_mul (by omega) hlen
    clear c0 c1 c2 c3 c4 f0 f1 f2 f3 f4
    by_cases htn : t < now
    · have hti : (t : Int) + 1 ≤ (now : Int) := by omega
      have htb : decide ((t : Int) + 1 ≤ (now : Int)) = true := decide_eq_true hti
      have HAZ := Lib.hid (atTime_zero l ((t : Int) + 1))
      go_wp2_with fail
      obtain ⟨wo, hwo⟩ : ∃ wo : World, wo = wr := ⟨_, rfl⟩
      subst hwo
      go_loopw [3, 5] (fun ov iv wi => ∃ (i n2 c2 : Nat) (a2 : Option Addr), i ≤ l.length ∧ iv = .int .i64 i ∧ ov = .slice a2 n2 c2 ∧ n2 ≤ n + i ∧ Hid (Out w wi a2 n2 c2 (upTo l t ++ atTime l i ((t : Int) + 1)))) (fun _ iv _ => l.length - (intOf iv).toNat)
      case atStart => exact ⟨0, n, c, a, Nat.zero_le _, rfl, rfl, Nat.le_refl _, Lib.hid (by rw [HAZ.out, List.append_nil]; exact HO.out)⟩
      case round =>
        obtain ⟨i, n2, c2, a2, hil, rfl, rfl, hn2, HO2⟩ := hrel
        have HR2 := Lib.hid (H.out.calm HO2.out.2.2.1)
        obtain ⟨r1, r2, r3, r4, _⟩ := HR2.out
        obtain ⟨hltr, ⟨d0, d1, d2, d3, d4⟩, _⟩ := block_cells5 r1
        clear r1 r3
        by_cases hi2 : i < l.length
        · rcases r2.2 with ⟨_, h, _⟩ | ⟨gk, curk, rfl, _⟩
          · omega
          rcases r4.2 with ⟨_, h, _⟩ | ⟨gw, curw, hv4, _⟩
          · omega
          cases hv4
          have z0 := texts_get (k := i) r2 (by simpa using hi2)
          have z1 := times_get (k := i) r4 (by simpa using hi2)
          rw [List.getElem_map] at z0 z1
          have hii : (i : Int) < (l.length : Int) := by omega
          obtain ⟨x, hx⟩ : ∃ x, l[i] = x := ⟨_, rfl⟩
          rw [hx] at z0 z1
          have HX := Lib.hid hx
          clear r2 r4 hx
          by_cases hxt : x.at' = (t : Int) + 1
          · have hb : (x.at' == (t : Int) + 1) = true := by simpa using hxt
            have HE := Lib.hid (atTime_hit l i ((t : Int) + 1) hi2 (by rw [HX.out]; exact hxt))
            rw [HX.out] at HE
            clear hxt
            go_wp2_with (at_builtin; refine wpList_append_any rfl (.tmp 33) (.tmp 41) 39 rfl 9 i0 _ 1 16 Try.underlying39 hi hz0 hz1 hz2 rfl (by decide) (.slice a2 n2 c2) n2 c2 (kcells (upTo l t ++ atTime l i ((t : Int) + 1))) rfl (Row.kept HO2.out.2.1 (S := NoB) ((Kept.refl _ _).alloc (.cells #[.string x.key] 9)) (fun _ _ h => h)) _ 1 [.string x.key] rfl ((Row.laid _ 9 1 1 #[.string x.key] rfl (by decide) _ rfl).src) (by intro u hu; simp only [List.mem_singleton] at hu; subst hu; rfl) (n2 + 1) rfl (kcells (upTo l t ++ atTime l i ((t : Int) + 1)) ++ [.string x.key]) rfl (by unfold maxLen; omega) (by omega) ?_; intro a3 c3 w4 hrow4 hgrow4 hat4 _; have HA4 := Lib.hid (HO2.out.app rfl hrow4 hgrow4 hat4); clear hrow4 hgrow4 hat4)
            go_roundw
            case rel => exact ⟨i + 1, n2 + 1, c3, a3, by omega, by go_num, rfl, by omega, Lib.hid (by rw [HE.out, ← List.append_assoc]; exact HA4.out)⟩
            case measure => simp [intOf]; omega
          · have hb : (x.at' == (t : Int) + 1) = false := by simpa using hxt
            have HE := Lib.hid (atTime_miss l i ((t : Int) + 1) hi2 (by rw [HX.out]; exact hxt))
            clear hxt
            go_wp2_with fail
            go_roundw
            case rel => exact ⟨i + 1, n2, c2, a2, by omega, by go_num, rfl, by omega, Lib.hid (by rw [HE.out]; exact HO2.out)⟩
            case measure => simp [intOf]; omega
        · have hie : i = l.length := by omega
          subst hie
          clear r2 r4
          go_wp2_with fail
          go_roundw
          case rel => exact ⟨t + 1, n2, c2, a2, by omega, by go_num, rfl, by rw [Nat.add_mul]; omega, HO2⟩
          case measure => simp [intOf]; omega
    · have hte : t = now := by omega
      subst hte
      have htb : decide ((t : Int) + 1 ≤ (t : Int)) = false := decide_eq_false (by omega)
      have HN := Lib.hid HO.out.1
      go_wp2_with fail
      go_ret
      have e := HN.out
      subst e
      exact ⟨a, c, rfl, HO.out⟩
end Go.Proofs.Ytlnhdfdalfoocaa
