/- The drawn regions of Lane, where stores close the region: what the loads lean on is asked only till the first store (mm) comes up. -/
import Derived.Test.YtlnhdfdalfoocaaLane
namespace Go.Proofs.Ytlnhdfdalfoocaa
open Go.RowKit

section
variable {P : Program} {md : Region.Mode} {ops : Array Oper} {Q : Exit → Act → World → Prop} {S : World → Prop} {mm : Nat}
/-- Whatever order is picked from here on; S holds behind every operation, till mm has come up. -/
def wpAnyM (P : Program) (md : Region.Mode) (ops : Array Oper) (Q : Exit → Act → World → Prop) (S : World → Prop) (mm : Nat) : Nat → Array Bool → Act → World → Prop
  | 0, listed, a, w => Region.ready md ops listed = [] ∧ Q .normal a w
  | fuel + 1, listed, a, w =>
    (Region.ready md ops listed = [] → Q .normal a w) ∧
    ∀ i ∈ Region.ready md ops listed, wpOp P ops Q i (fun a' w' => ((listed.setIfInBounds i true).getD mm true = false → S w') ∧ wpAnyM P md ops Q S mm fuel (listed.setIfInBounds i true) a' w') a w
theorem wpAny_of_M : ∀ (fuel : Nat) (listed : Array Bool) (a : Act) (w : World), wpAnyM P md ops Q S mm fuel listed a w → wpAny P md ops Q fuel listed a w
  | 0, _, _, _, h => h
  | fuel + 1, _, _, _, h => ⟨h.1, fun i hi => wpOp_mono (fun a' w' h' => wpAny_of_M fuel _ a' w' h'.2) (h.2 i hi)⟩
theorem getD_set_true {l : Array Bool} {i m : Nat} (h : (l.setIfInBounds i true).getD m true = false) : l.getD m true = false ∧ i ≠ m := by
  by_cases e : i = m
  · subst e
    rcases Nat.lt_or_ge i l.size with h' | h'
    · simp [h'] at h
    · simp [h'] at h
  · rw [getD_set_ne true e] at h
    exact ⟨h, e⟩
/-- as the kit's law 'wpAnyH_first', with S asked while mm has not come up; mm waits for i -/
theorem wpAnyM_first {i : Nat} {oi : Oper} {v : Value} (hi : ops[i]? = some oi) (hsel : ∀ (j : Nat) (o : Oper) cs b, ops[j]? = some o → o.op ≠ .select cs b)
    (hQ : ∀ c a w, Q (.panic c) (a.put oi.dst v) w → Q (.panic c) a w) (him : i ≠ mm) (hwait : ∀ om, ops[mm]? = some om → ∃ e ∈ om.after, Region.binds md e = true ∧ e.on = i) :
    ∀ (fuel : Nat) (listed : Array Bool) (a : Act) (w : World),
      (∀ j oj, ops[j]? = some oj → j ≠ i → listed.getD j true = false → (∀ e ∈ oj.after, Region.binds md e = true → e.on ≠ i) → oi.apart ops oj = true) →
      i ∈ Region.ready md ops listed → listed.getD mm true = false → YieldsIf P ops S oi v a → S w →
      wpAnyM P md ops Q S mm fuel (listed.setIfInBounds i true) (a.put oi.dst v) w → wpAnyM P md ops Q S mm (fuel + 1) listed a w := by
  intro fuel
  induction fuel with
  | zero =>
    intro listed a w _ hr hm hy hS H
    refine ⟨fun h => (by rw [h] at hr; cases hr), fun j hj => ?_⟩
    by_cases hji : j = i
    · subst hji; exact hy.wpOp hi hS ⟨fun _ => hS, H⟩
    · have := ready_mono hj hji
      rw [H.1] at this
      cases this
  | succ fuel ih =>
    intro listed a w hfree hr hm hy hS H
    refine ⟨fun h => (by rw [h] at hr; cases hr), fun j hj => ?_⟩
    by_cases hji : j = i
    · subst hji; exact hy.wpOp hi hS ⟨fun _ => hS, H⟩
    · have h1 := H.2 j (ready_mono hj hji)
      obtain ⟨hjun, oj, hoj, hall⟩ := mem_ready.1 hj
      have hnot : ∀ e ∈ oj.after, Region.binds md e = true → e.on ≠ i := fun e he hb heq => by
        have h1 := hall e he hb
        have h0 := (mem_ready.1 hr).1
        rw [heq] at h1
        rcases Nat.lt_or_ge i listed.size with h' | h'
        · simp [h'] at h0 h1; rw [h0] at h1; cases h1
        · simp [Array.getElem?_eq_none h'] at h1
      have hjm : j ≠ mm := fun e => by
        subst e
        obtain ⟨e1, h1, h2, h3⟩ := hwait oj hoj
        exact hnot e1 h1 h2 h3
      have h2 := wpOp_putIf hoj (hfree j oj hoj hji hjun hnot) (fun cs b => hsel i oi cs b hi) (fun cs b => hsel j oj cs b hoj) hQ hy h1
      have hfree' : ∀ k ok, ops[k]? = some ok → k ≠ i → (listed.setIfInBounds j true).getD k true = false →
          (∀ e ∈ ok.after, Region.binds md e = true → e.on ≠ i) → oi.apart ops ok = true := fun k ok hk hki hun hno => by
        refine hfree k ok hk hki ?_ hno
        by_cases hjk : j = k
        · subst hjk; exact hjun
        · rw [getD_set_ne true hjk] at hun; exact hun
      have hm' : (listed.setIfInBounds j true).getD mm true = false := by rw [getD_set_ne true hjm]; exact hm
      have hm2 : ((listed.setIfInBounds i true).setIfInBounds j true).getD mm true = false := by rw [getD_set_ne true hjm, getD_set_ne true him]; exact hm
      refine wpOp_mono (fun a' w' h3 => ⟨fun _ => h3.2.1 hm2, ih (listed.setIfInBounds j true) a' w' hfree' (ready_mono hr (Ne.symm hji)) hm' h3.1 (h3.2.1 hm2) ?_⟩) h2
      rw [Array.setIfInBounds_comm _ _ hji]
      exact h3.2.2
/-- the same, for what yields its value in whatever world -/
theorem wpAnyM_first' {i : Nat} {oi : Oper} {v : Value} (hi : ops[i]? = some oi) (hsel : ∀ (j : Nat) (o : Oper) cs b, ops[j]? = some o → o.op ≠ .select cs b)
    (hQ : ∀ c a w, Q (.panic c) (a.put oi.dst v) w → Q (.panic c) a w) (him : i ≠ mm) :
    ∀ (fuel : Nat) (listed : Array Bool) (a : Act) (w : World),
      (∀ j oj, ops[j]? = some oj → j ≠ i → listed.getD j true = false → (∀ e ∈ oj.after, Region.binds md e = true → e.on ≠ i) → oi.apart ops oj = true) →
      i ∈ Region.ready md ops listed → YieldsIf P ops (fun _ => True) oi v a → (listed.getD mm true = false → S w) →
      wpAnyM P md ops Q S mm fuel (listed.setIfInBounds i true) (a.put oi.dst v) w → wpAnyM P md ops Q S mm (fuel + 1) listed a w := by
  have keep : ∀ (l : Array Bool) (w : World), (l.getD mm true = false → S w) → ((l.setIfInBounds i true).getD mm true = false → S w) := fun l w h h1 => h (by rw [getD_set_ne true him] at h1; exact h1)
  intro fuel
  induction fuel with
  | zero =>
    intro listed a w _ hr hy hS H
    refine ⟨fun h => (by rw [h] at hr; cases hr), fun j hj => ?_⟩
    by_cases hji : j = i
    · subst hji; exact hy.wpOp hi trivial ⟨keep listed w hS, H⟩
    · have := ready_mono hj hji
      rw [H.1] at this
      cases this
  | succ fuel ih =>
    intro listed a w hfree hr hy hS H
    refine ⟨fun h => (by rw [h] at hr; cases hr), fun j hj => ?_⟩
    by_cases hji : j = i
    · subst hji; exact hy.wpOp hi trivial ⟨keep listed w hS, H⟩
    · have h1 := H.2 j (ready_mono hj hji)
      obtain ⟨hjun, oj, hoj, hall⟩ := mem_ready.1 hj
      have hnot : ∀ e ∈ oj.after, Region.binds md e = true → e.on ≠ i := fun e he hb heq => by
        have h1 := hall e he hb
        have h0 := (mem_ready.1 hr).1
        rw [heq] at h1
        rcases Nat.lt_or_ge i listed.size with h' | h'
        · simp [h'] at h0 h1; rw [h0] at h1; cases h1
        · simp [Array.getElem?_eq_none h'] at h1
      have h2 := wpOp_putIf hoj (hfree j oj hoj hji hjun hnot) (fun cs b => hsel i oi cs b hi) (fun cs b => hsel j oj cs b hoj) hQ hy h1
      have hfree' : ∀ k ok, ops[k]? = some ok → k ≠ i → (listed.setIfInBounds j true).getD k true = false →
          (∀ e ∈ ok.after, Region.binds md e = true → e.on ≠ i) → oi.apart ops ok = true := fun k ok hk hki hun hno => by
        refine hfree k ok hk hki ?_ hno
        by_cases hjk : j = k
        · subst hjk; exact hjun
        · rw [getD_set_ne true hjk] at hun; exact hun
      have e : ∀ w', (((listed.setIfInBounds i true).setIfInBounds j true).getD mm true = false → S w') → ((listed.setIfInBounds j true).getD mm true = false → S w') := fun w' h h1 => by
        refine h ?_
        rw [Array.setIfInBounds_comm _ _ (Ne.symm hji), getD_set_ne true him]
        exact h1
      refine wpOp_mono (fun a' w' h3 => ⟨e w' h3.2.1, ih (listed.setIfInBounds j true) a' w' hfree' (ready_mono hr (Ne.symm hji)) h3.1 (e w' h3.2.1) ?_⟩) h2
      rw [Array.setIfInBounds_comm _ _ hji]
      exact h3.2.2
theorem wpAnyM_pure {i : Nat} {oi : Oper} {v : Value} {fuel : Nat} {listed : Array Bool} {a : Act} {w : World} (hi : ops[i]? = some oi)
    (hs : Region.noSelect ops = true) (hf : Region.free md ops listed i = true) (hr : (Region.ready md ops listed).contains i = true) (him : (i != mm) = true)
    (hQ : ∀ c a w, Q (.panic c) (a.put oi.dst v) w → Q (.panic c) a w) (hy : YieldsIf P ops (fun _ => True) oi v a) (hS : listed.getD mm true = false → S w)
    (h : wpAnyM P md ops Q S mm fuel (listed.setIfInBounds i true) (a.put oi.dst v) w) : wpAnyM P md ops Q S mm (fuel + 1) listed a w := by
  simp only [bne_iff_ne] at him
  exact wpAnyM_first' hi (Region.noSelect_spec hs) hQ him fuel listed a w (Region.free_spec hi hf) (by simpa using hr) hy hS h
/-- does the operation mm wait for i? -/
def waits (md : Region.Mode) (ops : Array Oper) (mm i : Nat) : Bool := ((ops[mm]?).map fun o => o.after.any fun e => Region.binds md e && e.on == i).getD true
theorem waits_spec {i : Nat} (h : waits md ops mm i = true) : ∀ om, ops[mm]? = some om → ∃ e ∈ om.after, Region.binds md e = true ∧ e.on = i := by
  intro om hom
  unfold waits at h
  rw [hom] at h
  simp only [Option.map_some, Option.getD_some, Array.any_eq_true, Bool.and_eq_true, beq_iff_eq] at h
  obtain ⟨n, hn, h1, h2⟩ := h
  exact ⟨om.after[n], Array.getElem_mem hn, h1, h2⟩
theorem wpAnyM_take {i : Nat} {oi : Oper} {v : Value} {fuel : Nat} {listed : Array Bool} {a : Act} {w : World} (hi : ops[i]? = some oi)
    (hs : Region.noSelect ops = true) (hf : Region.free md ops listed i = true) (hr : (Region.ready md ops listed).contains i = true) (hm : (i != mm && waits md ops mm i && !listed.getD mm true) = true)
    (hQ : ∀ c a w, Q (.panic c) (a.put oi.dst v) w → Q (.panic c) a w) (hy : YieldsIf P ops S oi v a) (hS : S w)
    (h : wpAnyM P md ops Q S mm fuel (listed.setIfInBounds i true) (a.put oi.dst v) w) : wpAnyM P md ops Q S mm (fuel + 1) listed a w := by
  simp only [Bool.and_eq_true, bne_iff_ne, Bool.not_eq_true'] at hm
  exact wpAnyM_first hi (Region.noSelect_spec hs) hQ hm.1.1 (waits_spec hm.1.2) fuel listed a w (Region.free_spec hi hf) (by simpa using hr) hm.2 hy hS h
/-- one operation alone may come up, and it yields its value here -/
theorem wpAnyM_one {i : Nat} {o : Oper} {fuel : Nat} {listed : Array Bool} {a : Act} {w : World} (hr : Region.ready md ops listed = [i]) (ho : ops[i]? = some o)
    (h : ∀ K' : Act → World → Prop, Shut (∀ a' w', ((listed.setIfInBounds i true).getD mm true = false → S w') → wpAnyM P md ops Q S mm fuel (listed.setIfInBounds i true) a' w' → K' a' w') → if Region.wanted o (yielded ops a.tmps) = true then Oper.wp P o a w K' Q else K' (a.put o.dst undef) w) : wpAnyM P md ops Q S mm (fuel + 1) listed a w := by
  refine ⟨fun h0 => (by rw [hr] at h0; cases h0), fun j hj => ?_⟩
  rw [hr] at hj
  simp only [List.mem_singleton] at hj
  subst hj
  exact wpOp_step ho (fun K' hK => h K' (fun a' w' h1 h2 => hK a' w' ⟨h1, h2⟩))
theorem wpAnyM_done {listed : Array Bool} {a : Act} {w : World} (hr : Region.ready md ops listed = []) (h : Q .normal a w) : ∀ fuel, wpAnyM P md ops Q S mm fuel listed a w
  | 0 => ⟨hr, h⟩
  | _ + 1 => ⟨fun _ => h, by rw [hr]; simp⟩
theorem wp_region_M {id : Nat} {a : Act} {w : World} (hm : P.follows .mixedOrders = true) (h : wpAnyM P .any ops Q S mm ops.size (Array.replicate ops.size false) a w.drew) : (Code.region id ops true).wp P Q a w :=
  wp_region_any hm (wpAny_of_M _ _ _ _ h)
theorem to_lanesM {listed listed' : Array Bool} {fuel fuel' : Nat} {a a' : Act} {w : World} (h : wpAnyM P md ops Q S mm fuel' listed' a' w) (hl : listed = listed') (hf : fuel = fuel') (ha : a = a') : wpAnyM P md ops Q S mm fuel listed a w := by subst hl; subst hf; subst ha; exact h
theorem lanes_walkM (f i11 i12 i21 i22 i31 i32 : Nat) (L : Pg → Pg → Pg → Array Bool) (F : Value → Value → Value → Value → Value → Value → Act)
    (St : Pg → Pg → Pg → Value → Value → Value → Value → Value → Value → World → Prop)
    (hready : ∀ p1 p2 p3, 0 < p1.left + p2.left + p3.left → (p2.left = 0 → p1.left = 0) → (p3.left = 0 → p2.left = 0) → Region.ready md ops (L p1 p2 p3) = rdy i11 i12 i21 i22 i31 i32 p1 p2 p3)
    (s11 : ∀ p2 p3, (L .z p2 p3).setIfInBounds i11 true = L .s p2 p3) (s12 : ∀ p2 p3, (L .s p2 p3).setIfInBounds i12 true = L .d p2 p3)
    (s21 : ∀ p1 p3, (L p1 .z p3).setIfInBounds i21 true = L p1 .s p3) (s22 : ∀ p1 p3, (L p1 .s p3).setIfInBounds i22 true = L p1 .d p3)
    (s31 : ∀ p1 p2, (L p1 p2 .z).setIfInBounds i31 true = L p1 p2 .s) (s32 : ∀ p1 p2, (L p1 p2 .s).setIfInBounds i32 true = L p1 p2 .d)
    (hS : ∀ p1 p2 p3 a b c d e g w, St p1 p2 p3 a b c d e g w → S w)
    (t11 : ∀ p2 p3 a b c d e g w, St .z p2 p3 a b c d e g w → StepOf P ops Q i11 (F a b c d e g) w (fun K => ∀ v w', St .s p2 p3 v b c d e g w' → K (F v b c d e g) w'))
    (t12 : ∀ p2 p3 a b c d e g w, St .s p2 p3 a b c d e g w → StepOf P ops Q i12 (F a b c d e g) w (fun K => ∀ v w', St .d p2 p3 a v c d e g w' → K (F a v c d e g) w'))
    (t21 : ∀ p1 p3 a b c d e g w, St p1 .z p3 a b c d e g w → StepOf P ops Q i21 (F a b c d e g) w (fun K => ∀ v w', St p1 .s p3 a b v d e g w' → K (F a b v d e g) w'))
    (t22 : ∀ p1 p3 a b c d e g w, St p1 .s p3 a b c d e g w → StepOf P ops Q i22 (F a b c d e g) w (fun K => ∀ v w', St p1 .d p3 a b c v e g w' → K (F a b c v e g) w'))
    (t31 : ∀ p1 p2 a b c d e g w, St p1 p2 .z a b c d e g w → StepOf P ops Q i31 (F a b c d e g) w (fun K => ∀ v w', St p1 p2 .s a b c d v g w' → K (F a b c d v g) w'))
    (t32 : ∀ p1 p2 a b c d e g w, St p1 p2 .s a b c d e g w → StepOf P ops Q i32 (F a b c d e g) w (fun K => ∀ v w', St p1 p2 .d a b c d e v w' → K (F a b c d e v) w'))
    (hend : ∀ a b c d e g w, St .d .d .d a b c d e g w → S w → wpAnyM P md ops Q S mm f (L .d .d .d) (F a b c d e g) w) :
    ∀ a b c d e g w, St .z .z .z a b c d e g w → wpAnyM P md ops Q S mm (f + 6) (L .z .z .z) (F a b c d e g) w := by
  have e0 : Pg.z.left = 2 := rfl
  have e1 : Pg.s.left = 1 := rfl
  have e2 : Pg.d.left = 0 := rfl
  have key : ∀ r p1 p2 p3 a b c d e g w, (p2.left = 0 → p1.left = 0) → (p3.left = 0 → p2.left = 0) → p1.left + p2.left + p3.left = r → St p1 p2 p3 a b c d e g w → wpAnyM P md ops Q S mm (f + r) (L p1 p2 p3) (F a b c d e g) w := by
    intro r
    induction r with
    | zero =>
      intro p1 p2 p3 a b c d e g w _ _ hr hst
      have e1 : p1 = .d := by cases p1 <;> simp [Pg.left] at hr <;> rfl
      have e2 : p2 = .d := by cases p2 <;> simp [Pg.left] at hr <;> rfl
      have e3 : p3 = .d := by cases p3 <;> simp [Pg.left] at hr <;> rfl
      subst e1 e2 e3
      exact hend a b c d e g w hst (hS _ _ _ _ _ _ _ _ _ _ hst)
    | succ r ih =>
      intro p1 p2 p3 a b c d e g w ho2 ho3 hr hst
      refine ⟨fun h0 => ?_, fun i hi => ?_⟩
      · rw [hready p1 p2 p3 (by omega) ho2 ho3] at h0
        exfalso
        cases p1 <;> cases p2 <;> cases p3 <;> simp [rdy, rdyOne, rdyNext, Pg.left] at h0 hr
      · rw [hready p1 p2 p3 (by omega) ho2 ho3] at hi
        unfold rdy at hi
        rcases List.mem_append.1 hi with hi | hi
        · rcases List.mem_append.1 hi with hi | hi
          · cases p1 with
            | z => simp only [rdyOne, List.mem_singleton] at hi; subst hi; exact t11 p2 p3 a b c d e g w hst _ fun v w' h' => ⟨fun _ => hS _ _ _ _ _ _ _ _ _ _ h', by rw [s11]; exact ih _ _ _ _ _ _ _ _ _ _ (by omega) (by omega) (by omega) h'⟩
            | s => simp only [rdyOne, List.mem_singleton] at hi; subst hi; exact t12 p2 p3 a b c d e g w hst _ fun v w' h' => ⟨fun _ => hS _ _ _ _ _ _ _ _ _ _ h', by rw [s12]; exact ih _ _ _ _ _ _ _ _ _ _ (by omega) (by omega) (by omega) h'⟩
            | d => cases hi
          · cases p2 with
            | z => simp only [rdyNext, List.mem_singleton] at hi; subst hi; exact t21 p1 p3 a b c d e g w hst _ fun v w' h' => ⟨fun _ => hS _ _ _ _ _ _ _ _ _ _ h', by rw [s21]; exact ih _ _ _ _ _ _ _ _ _ _ (by omega) (by omega) (by omega) h'⟩
            | s =>
              cases p1 with
              | z => simp [rdyNext, Pg.left] at hi
              | s => simp [rdyNext, Pg.left] at hi
              | d => simp only [rdyNext, Pg.left, if_true, List.mem_singleton] at hi; subst hi; exact t22 .d p3 a b c d e g w hst _ fun v w' h' => ⟨fun _ => hS _ _ _ _ _ _ _ _ _ _ h', by rw [s22]; exact ih _ _ _ _ _ _ _ _ _ _ (by omega) (by omega) (by omega) h'⟩
            | d => cases hi
        · cases p3 with
          | z => simp only [rdyNext, List.mem_singleton] at hi; subst hi; exact t31 p1 p2 a b c d e g w hst _ fun v w' h' => ⟨fun _ => hS _ _ _ _ _ _ _ _ _ _ h', by rw [s31]; exact ih _ _ _ _ _ _ _ _ _ _ (by omega) (by omega) (by omega) h'⟩
          | s =>
            cases p2 with
            | z => simp [rdyNext, Pg.left] at hi
            | s => simp [rdyNext, Pg.left] at hi
            | d => simp only [rdyNext, Pg.left, if_true, List.mem_singleton] at hi; subst hi; exact t32 p1 .d a b c d e g w hst _ fun v w' h' => ⟨fun _ => hS _ _ _ _ _ _ _ _ _ _ h', by rw [s32]; exact ih _ _ _ _ _ _ _ _ _ _ (by omega) (by omega) (by omega) h'⟩
          | d => cases hi
  exact fun a b c d e g w => key 6 .z .z .z a b c d e g w (by decide) (by decide) rfl
end
end Go.Proofs.Ytlnhdfdalfoocaa
