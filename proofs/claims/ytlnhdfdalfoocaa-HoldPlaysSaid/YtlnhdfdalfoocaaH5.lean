/- Walks: Used and Keys. -/
import Derived.Test.YtlnhdfdalfoocaaH4
namespace Go.Proofs.Ytlnhdfdalfoocaa
open Go.RowKit Go.Shelf

attribute [local go_sem] Oper.semAt_some

theorem used_any (bh : Nat) (quota : Int) (l : List En) (gq : Option Nat) (hlen : l.length ≤ 4096) (w : World) (h : HAt w bh quota l gq) (ht : total l ≤ 1000000) :
    Calls Try.prog 16 #[.pointer (some ⟨bh, 0, none⟩)] w fun e W' => e = .returned (.int .i64 (total l)) ∧ Kept NoB w W' :=
  (callsIn_wide.1 (used_in Fence.wide 6 trivial trivial trivial rfl (by decide) bh quota l gq hlen w h ht)).mono fun _ _ ⟨he, hb⟩ => ⟨he, Kept.of_below_all hb⟩
set_option maxHeartbeats 400000 in
theorem used_nil (w : World) :
    Calls Try.prog 16 #[.pointer none] w fun e w' => e = .returned (.int .i64 0) ∧ w = w' := by
  go_enter Try.func16, Try.ntmps16
  go_wp2
  go_ret
  exact ⟨rfl, rfl⟩
set_option maxHeartbeats 400000 in
theorem keys_nil (w : World) :
    Calls Try.prog 19 #[.pointer none] w fun e w' => e = .returned (.slice none 0 0) ∧ w = w' := by
  go_enter Try.func19, Try.ntmps19
  go_wp2
  go_ret
  exact ⟨rfl, rfl⟩

/-- texts as cells -/
def kcells (l : List ByteArray) : List Value := l.map Value.string
theorem kcells_snoc (l : List ByteArray) (x : ByteArray) : kcells (l ++ [x]) = kcells l ++ [.string x] := by simp [kcells]
/-- texts of the call's own -/
def FreshK (w w' : World) (v : Value) (l : List ByteArray) : Prop :=
  (∃ ao, v = .slice ao l.length l.length) ∧ Row w' 9 1 v l.length l.length (kcells l) ∧ Kept NoB w w' ∧ ∀ g, v.ownBlock = some g → w.heap.size ≤ g

theorem fresh_done {w W : World} {ao : Option Addr} {cap' D : Nat} {o : Obj} {ys : List En} (hr : Row W 9 1 (.slice ao ys.length ys.length) ys.length ys.length (kcells (ys.map En.key))) (hl : ∀ k, (Value.slice ao ys.length cap').ownBlock = some k → w.heap.size ≤ k)
    (hD : W.heap[D]? = some (.deferred (some []))) (hk : Kept NoB w (W.putObj D o)) : FreshK w (W.putObj D o) (.slice ao ys.length ys.length) (ys.map En.key) := by
  unfold FreshK
  rw [List.length_map]
  refine ⟨⟨ao, rfl⟩, ?_, hk, fun g hg => hl g (by rw [← hg]; cases ao <;> rfl)⟩
  refine ⟨hr.1, ?_⟩
  rcases hr.2 with h | ⟨g, cur, h1, h2, h3⟩
  · exact .inl h
  · refine .inr ⟨g, cur, h1, ?_, h3⟩
    rw [World.putObj_heap_other (fun e => by rw [e] at h2; rw [h2] at hD; cases hD)]
    exact h2

set_option maxRecDepth 100000 in
set_option maxHeartbeats 2000000 in
theorem keys_in (F : Fence) (n : Nat) (h19 : F.fn 19) (h30 : F.fn 30) (h31 : F.fn 31) (h35 : F.fn 35) (hro : F.round = none) (hn : 4 ≤ n) (hwide : ∀ (m f : Nat) (args : Array Value) (w : World) (R : Ending → World → Prop), Calls Try.prog f args w R → CallsIn F m Try.prog f args w R)
    (bh : Nat) (quota : Int) (l : List En) (gq : Option Nat) (hlen : l.length ≤ 4096) (w : World) (h : HAt w bh quota l gq) :
    CallsIn F n Try.prog 19 #[.pointer (some ⟨bh, 0, none⟩)] w fun e W' => ∃ v', e = .returned v' ∧ FreshK w W' v' (l.map En.key) := by
  obtain ⟨i0, hi, hz0, hz1, hz2⟩ := info_parts info9
  have h1 : 1 ≤ n := by omega
  have HCLIP := Lib.hid (fun (m : Nat) (ao : Option Addr) (k cap : Nat) (xs : List Value) (w : World) (hr : Row w 9 1 (.slice ao k cap) k cap xs) (hm : k ≤ 32768) => hwide m _ _ _ _ (clips_any ao k cap xs w hr hm))
  clear hwide
  refine callsIn_of_wp_marks Try.func19 rfl h19 ?_ hro
  simp only [Try.ntmps19, List.size_toArray, List.length_cons, List.length_nil, Nat.reduceAdd, Nat.reduceSub, Array.replicate_succ, Array.replicate_zero, List.push_toArray, List.append_toArray, List.nil_append, List.cons_append]
  gi_wp2_with (gi_at_call 30; refine (all_in F (n - 1) h30 hro _ _).mono ?_; rintro e w' ⟨rfl, rfl⟩)
  obtain ⟨v, cap, hb, hr, hg, he⟩ := h
  have bO := (Boxed.new w 39 (.slice none 0 0)).alloc (.cells #[.pointer (some ⟨bh, 0, none⟩)] 66)
  have hB0 : Below w.heap.size w ((w.alloc (.cells #[.slice none 0 0] 39)).alloc (.cells #[.pointer (some ⟨bh, 0, none⟩)] 66)) := ((Below.refl _ w).alloc (Nat.le_refl _) _).alloc (by simp) _
  have hK0 := Kept.of_below_all hB0
  have hr0 : Ents _ v l cap := hr.kept hK0 (fun _ _ h => h)
  have hc0 := hK0.cell (block_cells2 hb).2.1 (fun h => h)
  have hBs : ((w.alloc (.cells #[.slice none 0 0] 39)).alloc (.cells #[.pointer (some ⟨bh, 0, none⟩)] 66)).cell? ⟨w.heap.size + 1, 0, none⟩ = some (.pointer (some ⟨bh, 0, none⟩)) := by
    have := (Boxed.new (w.alloc (.cells #[.slice none 0 0] 39)) 66 (.pointer (some ⟨bh, 0, none⟩))).cell
    have e : (w.alloc (.cells #[.slice none 0 0] 39)).heap.size = w.heap.size + 1 := by simp
    rw [e] at this
    exact this
  have hbl := hr.lt
  have hsz : ((w.alloc (.cells #[.slice none 0 0] 39)).alloc (.cells #[.pointer (some ⟨bh, 0, none⟩)] 66)).heap.size = w.heap.size + 2 := by simp
  obtain ⟨W0, hW0⟩ : ∃ W0, (w.alloc (.cells #[.slice none 0 0] 39)).alloc (.cells #[.pointer (some ⟨bh, 0, none⟩)] 66) = W0 := ⟨_, rfl⟩
  rw [hW0] at bO hB0 hr0 hc0 hsz hBs ⊢
  clear hW0 hK0
  refine wpIn_rangeFunc_ownH hro h1 (gf := 35) (lb := #[.pointer (some ⟨w.heap.size + 1, 0, none⟩)]) rfl h35 (enters_of Try.func35 (by kernel_rfl) rfl)
    (all_stops F (n - 1) h35 hro (by omega) (w.heap.size + 1) bh w.heap.size v cap l (by unfold maxLen; omega) W0 (by omega) hBs hc0 hr0 hbl) belowK_t (belowK_b (by omega)) (Below.refl _ _) (fun _ => rfl)
    (fun (pre : List En) W => (∃ v', Boxed W w.heap.size 39 v' ∧ W.ownsRow w.heap.size 9 1 v' pre.length (kcells (pre.map En.key)) ∧ True) ∧ Below w.heap.size w W)
    (fun _ _ _ => False)
    (OwnFrom.and (Own.from (holdsRow_own w.heap.size w.heap.size 39 9 1 (fun (pre : List En) => pre.length) (fun (pre : List En) => kcells (pre.map En.key)) (fun _ _ => True)) _) (ownFrom_below (Nat.le_refl _) (by omega)))
    (fun _ _ _ _ _ hs _ _ => hs)
    ⟨⟨_, bO, World.ownsRow_nil _ _ _ _, trivial⟩, hB0⟩
    (fun x a' _ => a' = { tmps := #[.pointer (some ⟨bh, 0, none⟩), undef, .slice none 0 0, .pointer (some ⟨w.heap.size, 0, none⟩), .string x.key, .pointer (some ⟨bh, 0, none⟩), .bool false, .pointer (some ⟨bh, 0, none⟩), .pointer (some ⟨bh, 0, none⟩), .pointer (some ⟨bh, 0, none⟩), .func (.func 35) #[] #[.pointer (some ⟨w.heap.size + 1, 0, none⟩)], .string x.key, .slice x.ao x.data.length x.cap, undef, undef, undef, undef, undef, undef], defers := [] })
    (fun x a' _ X Y row hs hg hr => hs)
    ?assign ?body ?done ?stop
  case assign =>
    rintro lp pre x W K hI hK
    unfold En.arr
    gi_wp2
    exact hK _ _ (KeepsFrom.refl _ _) (Below.refl _ W) hI rfl
  case body =>
    rintro lp pre x a' W hl ⟨r, hr'⟩ ⟨⟨v', hv, hrow, _⟩, hB⟩ rfl hlt
    have hc := hv.cell
    have HS := Lib.hid (kcells_snoc (pre.map En.key) x.key)
    gi_wp2_with (gi_at_builtin; refine wpListIn_append_own _ rfl _ _ 39 rfl w.heap.size 9 i0 _ 1 16 Try.underlying39 hi hz0 hz1 hz2 rfl (by decide) _ _ _ rfl (hrow.alloc _) ⟨W.heap.size, 0, none⟩ 1 1 [.string x.key] rfl rfl (news_alloc W #[.string x.key] 9 _ rfl) (by intro u hu; simp at hu; subst hu; rfl) (by unfold maxLen; omega) (by omega) (by have := hB.size; simp; omega) ?_; intro v1 w1 hown' hgrow _; obtain ⟨g', cap', rfl⟩ := ownsRow_succ hown'; obtain ⟨hv1, hv2, hr2, hk2, hb2⟩ := hv.appended (by decide) hrow hB.size (Nat.le_refl _) hown' hgrow; have hc1 := hv1.cell; have hf1 := hv1.frozen)
    exact ⟨hk2.from _, hb2, ⟨_, hv2, by rw [List.length_append, List.map_append, List.map_singleton, HS.out]; exact hr2, trivial⟩, hB.trans hb2⟩
  case done =>
    rintro D ys W hD rfl ⟨⟨v', hv, hrow, _⟩, hB⟩ hK
    have hc := hv.cell
    obtain ⟨cap', hrw⟩ := Row.own hrow
    obtain ⟨ao', rfl⟩ := hrw.form
    have HR := Lib.hid hrw
    have HL := Lib.hid (fun k hk => (hrow.lt k hk).1)
    clear hrow hrw
    gi_wp2_with (gi_at_call 31; refine (HCLIP.out _ _ _ _ _ _ HR.out (by omega)).mono ?_; rintro e w' ⟨rfl, rfl, hr9⟩)
    refine ⟨by simp, .inl ⟨_, _, rfl, run_takeDeferred hK, ?_⟩⟩
    exact ⟨_, results_tmp rfl _ _ _, ⟨_, rfl, fresh_done hr9 HL.out hK (Kept.of_below_all (hB.trans (belowK_b (w := w) (Nat.le_refl _) W D _ _ (by omega) hK rfl rfl)))⟩⟩
  case stop =>
    rintro D c pre W _ _ h _
    exact h.elim
theorem keys_any (bh : Nat) (quota : Int) (l : List En) (gq : Option Nat) (hlen : l.length ≤ 4096) (w : World) (h : HAt w bh quota l gq) :
    Calls Try.prog 19 #[.pointer (some ⟨bh, 0, none⟩)] w fun e W' => ∃ v', e = .returned v' ∧ FreshK w W' v' (l.map En.key) :=
  callsIn_wide.1 (keys_in Fence.wide 6 trivial trivial trivial trivial rfl (by decide) (fun _ _ _ _ _ h => callsIn_wide.2 h) bh quota l gq hlen w h)
end Go.Proofs.Ytlnhdfdalfoocaa
