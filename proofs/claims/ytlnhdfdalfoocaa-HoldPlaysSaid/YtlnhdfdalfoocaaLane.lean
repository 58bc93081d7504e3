/- Three lanes in one drawn region: each makes a cell, then appends it onto a row of its own; whatever order is drawn. No program in sight. -/
import Derived.Deep.RegionHeld3
import Derived.Test.YtlnhdfdalfoocaaHeap2
namespace Go.Proofs.Ytlnhdfdalfoocaa
open Go.RowKit

/-- how far a lane has come: not begun, its cell is made, it is appended -/
inductive Pg where
  | z
  | s
  | d
def Pg.left : Pg → Nat
  | .z => 2
  | .s => 1
  | .d => 0

/-- one lane: the row acc, the element x; G: the blocks that are the lane's own -/
def Lane (p : Pg) (w : World) (e : TypeId) (acc : Value) (n c : Nat) (xs : List Value) (x v1 v2 : Value) (G : Nat → Prop) : Prop :=
  (∀ k, G k → k < w.heap.size) ∧
  match p with
  | .z => Row w e 1 acc n c xs ∧ ∀ k, acc.ownBlock = some k → G k
  | .s => Row w e 1 acc n c xs ∧ (∀ k, acc.ownBlock = some k → G k) ∧ ∃ B, v1 = .slice (some ⟨B, 0, none⟩) 1 1 ∧ w.heap[B]? = some (.cells #[x] e (0, 0)) ∧ G B
  | .d => ∃ ao c2, v2 = .slice ao (n + 1) c2 ∧ Row w e 1 v2 (n + 1) c2 (xs ++ [x]) ∧ ∀ k, v2.ownBlock = some k → G k
theorem Lane.kept {p : Pg} {w w' : World} {e : TypeId} {acc : Value} {n c : Nat} {xs : List Value} {x v1 v2 : Value} {G T : Nat → Prop} (h : Lane p w e acc n c xs x v1 v2 G) (hk : Kept T w w') (hT : ∀ k, T k → ¬ G k) : Lane p w' e acc n c xs x v1 v2 G := by
  obtain ⟨h1, h2⟩ := h
  refine ⟨fun k hk' => Nat.lt_of_lt_of_le (h1 k hk') hk.size, ?_⟩
  cases p with
  | z => exact ⟨h2.1.kept hk (fun k hk' ht => hT k ht (h2.2 k hk')), h2.2⟩
  | s =>
    obtain ⟨h3, h4, B, h5, h6, h7⟩ := h2
    exact ⟨h3.kept hk (fun k hk' ht => hT k ht (h4 k hk')), h4, B, h5, hk.heap h6 (fun ht => hT B ht h7), h7⟩
  | d =>
    obtain ⟨ao, c2, h3, h4, h5⟩ := h2
    exact ⟨ao, c2, h3, h4.kept hk (fun k hk' ht => hT k ht (h5 k hk')), h5⟩
/-- the cell is made -/
theorem Lane.made {w : World} {e : TypeId} {acc : Value} {n c : Nat} {xs : List Value} {x v1 v2 : Value} {G : Nat → Prop} (h : Lane .z w e acc n c xs x v1 v2 G) :
    Lane .s (w.alloc (.cells #[x] e)) e acc n c xs x (.slice (some ⟨w.heap.size, 0, none⟩) 1 1) v2 (fun k => G k ∨ k = w.heap.size) := by
  obtain ⟨h1, h2, h3⟩ := h
  have hk : Kept NoB w (w.alloc (.cells #[x] e)) := (Kept.refl _ _).alloc _
  refine ⟨fun k hk' => ?_, h2.kept hk (fun _ _ h => h), fun k hk' => .inl (h3 k hk'), w.heap.size, rfl, heap_alloc_new w _, .inr rfl⟩
  rcases hk' with h | h
  · exact Nat.lt_of_lt_of_le (h1 k h) hk.size
  · subst h; simp
/-- it is appended -/
theorem Lane.done {w w' : World} {e : TypeId} {acc : Value} {n c N : Nat} {xs ys : List Value} {x v1 v2 : Value} {ao : Option Addr} {c2 : Nat} {G : Nat → Prop} (h : Lane .s w e acc n c xs x v1 v2 G) (hN : N = n + 1) (hys : ys = xs ++ [x])
    (hrow : Row w' e 1 (.slice ao N c2) N c2 ys) (hgrow : w.grownBy w' acc.ownBlock) (hat : (Value.slice ao N c2).ownBlock = acc.ownBlock ∨ (Value.slice ao N c2).ownBlock = some w.heap.size) :
    ∃ G', Lane .d w' e acc n c xs x v1 (.slice ao N c2) G' ∧ Kept (fun k => acc.ownBlock = some k) w w' ∧ ∀ k, G' k → G k ∨ w.heap.size ≤ k := by
  subst hN
  subst hys
  obtain ⟨h1, h2, h3, _⟩ := h
  refine ⟨fun k => (Value.slice ao (n + 1) c2).ownBlock = some k, ⟨fun k hk => hrow.lt k hk, ao, c2, rfl, hrow, fun _ h => h⟩, (Kept.refl (fun k => acc.ownBlock = some k) w).grown hgrow (fun _ e _ => e), fun k hk => ?_⟩
  rcases hat with e | e
  · exact .inl (h3 k (e ▸ hk))
  · rw [e] at hk
    simp only [Option.some.injEq] at hk
    exact .inr (by omega)

/-- three lanes, apart from each other; acc1, acc2, acc3 are the only old blocks that were written -/
structure Lanes (p1 p2 p3 : Pg) (w0 w : World) (e1 e2 e3 : TypeId) (a1 a2 a3 : Value) (n c1 c2 c3 : Nat) (xs1 xs2 xs3 : List Value) (x1 x2 x3 v11 v12 v21 v22 v31 v32 : Value) (G1 G2 G3 : Nat → Prop) : Prop where
  l1 : Lane p1 w e1 a1 n c1 xs1 x1 v11 v12 G1
  l2 : Lane p2 w e2 a2 n c2 xs2 x2 v21 v22 G2
  l3 : Lane p3 w e3 a3 n c3 xs3 x3 v31 v32 G3
  d12 : ∀ k, G1 k → ¬ G2 k
  d13 : ∀ k, G1 k → ¬ G3 k
  d23 : ∀ k, G2 k → ¬ G3 k
  old : Kept (fun k => a1.ownBlock = some k ∨ a2.ownBlock = some k ∨ a3.ownBlock = some k) w0 w
  ge : ∀ k, G1 k ∨ G2 k ∨ G3 k → (a1.ownBlock = some k ∨ a2.ownBlock = some k ∨ a3.ownBlock = some k) ∨ w0.heap.size ≤ k

section
variable {p1 p2 p3 : Pg} {w0 w : World} {e1 e2 e3 : TypeId} {a1 a2 a3 : Value} {n c1 c2 c3 : Nat} {xs1 xs2 xs3 : List Value} {x1 x2 x3 v11 v12 v21 v22 v31 v32 : Value} {G1 G2 G3 : Nat → Prop}
/-- the first lane last, the second first: so one law serves for all three -/
theorem Lanes.turn (h : Lanes p1 p2 p3 w0 w e1 e2 e3 a1 a2 a3 n c1 c2 c3 xs1 xs2 xs3 x1 x2 x3 v11 v12 v21 v22 v31 v32 G1 G2 G3) :
    Lanes p2 p3 p1 w0 w e2 e3 e1 a2 a3 a1 n c2 c3 c1 xs2 xs3 xs1 x2 x3 x1 v21 v22 v31 v32 v11 v12 G2 G3 G1 :=
  ⟨h.l2, h.l3, h.l1, h.d23, fun k h2 h1 => h.d12 k h1 h2, fun k h3 h1 => h.d13 k h1 h3, h.old.mono fun k _ hk => by rcases hk with h | h | h; exact .inr (.inr h); exact .inl h; exact .inr (.inl h),
    fun k hk => by
      have h' := h.ge k (by rcases hk with h | h | h; exact .inr (.inl h); exact .inr (.inr h); exact .inl h)
      rcases h' with (h | h | h) | h
      · exact .inl (.inr (.inr h))
      · exact .inl (.inl h)
      · exact .inl (.inr (.inl h))
      · exact .inr h⟩
theorem Lanes.made (h : Lanes .z p2 p3 w0 w e1 e2 e3 a1 a2 a3 n c1 c2 c3 xs1 xs2 xs3 x1 x2 x3 v11 v12 v21 v22 v31 v32 G1 G2 G3) :
    ∃ G, Lanes .s p2 p3 w0 (w.alloc (.cells #[x1] e1)) e1 e2 e3 a1 a2 a3 n c1 c2 c3 xs1 xs2 xs3 x1 x2 x3 (.slice (some ⟨w.heap.size, 0, none⟩) 1 1) v12 v21 v22 v31 v32 G G2 G3 := by
  have hk : Kept NoB w (w.alloc (.cells #[x1] e1)) := (Kept.refl _ _).alloc _
  refine ⟨_, h.l1.made, h.l2.kept hk (fun _ h => h.elim), h.l3.kept hk (fun _ h => h.elim), ?_, ?_, h.d23, h.old.then hk, ?_⟩
  · rintro k (hk | hk) h2
    · exact h.d12 k hk h2
    · have := h.l2.1 k h2; omega
  · rintro k (hk | hk) h3
    · exact h.d13 k hk h3
    · have := h.l3.1 k h3; omega
  · rintro k ((hk | hk) | hk)
    · exact h.ge k (.inl hk)
    · exact .inr (by have := h.old.size; omega)
    · exact h.ge k (.inr hk)
theorem Lanes.done {w' : World} {ao : Option Addr} {cn N : Nat} {ys : List Value} (h : Lanes .s p2 p3 w0 w e1 e2 e3 a1 a2 a3 n c1 c2 c3 xs1 xs2 xs3 x1 x2 x3 v11 v12 v21 v22 v31 v32 G1 G2 G3) (hN : N = n + 1) (hys : ys = xs1 ++ [x1])
    (hrow : Row w' e1 1 (.slice ao N cn) N cn ys) (hgrow : w.grownBy w' a1.ownBlock) (hat : (Value.slice ao N cn).ownBlock = a1.ownBlock ∨ (Value.slice ao N cn).ownBlock = some w.heap.size) :
    ∃ G, Lanes .d p2 p3 w0 w' e1 e2 e3 a1 a2 a3 n c1 c2 c3 xs1 xs2 xs3 x1 x2 x3 v11 (.slice ao N cn) v21 v22 v31 v32 G G2 G3 := by
  obtain ⟨G, h1, h2, h3⟩ := h.l1.done hN hys hrow hgrow hat
  have hg : ∀ k, a1.ownBlock = some k → G1 k := h.l1.2.2.1
  refine ⟨G, h1, h.l2.kept h2 (fun k hk h2 => h.d12 k (hg k hk) h2), h.l3.kept h2 (fun k hk h3 => h.d13 k (hg k hk) h3), ?_, ?_, h.d23, h.old.trans h2 (fun i _ hi => .inl hi), ?_⟩
  · intro k hk h2'
    rcases h3 k hk with h4 | h4
    · exact h.d12 k h4 h2'
    · have := h.l2.1 k h2'; omega
  · intro k hk h3'
    rcases h3 k hk with h4 | h4
    · exact h.d13 k h4 h3'
    · have := h.l3.1 k h3'; omega
  · rintro k (hk | hk)
    · rcases h3 k hk with h4 | h4
      · exact h.ge k (.inl h4)
      · exact .inr (Nat.le_trans h.old.size h4)
    · exact h.ge k (.inr hk)
end

/-! whatever order is drawn -/
section
variable {P : Program} {md : Region.Mode} {ops : Array Oper} {Q : Exit → Act → World → Prop} {S : World → Prop}
/-- the operations of the lanes that may come up: an append waits for the lane ahead -/
def rdyOne (i1 i2 : Nat) : Pg → List Nat
  | .z => [i1]
  | .s => [i2]
  | .d => []
def rdyNext (i1 i2 : Nat) (p q : Pg) : List Nat :=
  match p with
  | .z => [i1]
  | .s => if q.left = 0 then [i2] else []
  | .d => []
def rdy (i11 i12 i21 i22 i31 i32 : Nat) (p1 p2 p3 : Pg) : List Nat := rdyOne i11 i12 p1 ++ rdyNext i21 i22 p2 p1 ++ rdyNext i31 i32 p3 p2
def Pg.m : Pg → Bool
  | .z => false
  | .s => true
  | .d => true
def Pg.a : Pg → Bool
  | .z => false
  | .s => false
  | .d => true
theorem src_of_block {w : World} {B : Nat} {x : Value} {e : TypeId} (h : w.heap[B]? = some (.cells #[x] e (0, 0))) : Src w 1 (.slice (some ⟨B, 0, none⟩) 1 1) 1 [x] := by
  refine ⟨rfl, _, _, rfl, (fun h => by cases h), fun a ha j u hu => ?_⟩
  cases ha
  rw [addr_add, Nat.zero_add, cell_of_row w B j _ e (0, 0) h]
  simpa using hu
/-- a step of operation i: handed over as the kit's own step is -/
def StepOf (P : Program) (ops : Array Oper) (Q : Exit → Act → World → Prop) (i : Nat) (a : Act) (w : World) (G : (Act → World → Prop) → Prop) : Prop :=
  ∀ K : Act → World → Prop, G K → wpOp P ops Q i K a w
theorem lanes_walk (f i11 i12 i21 i22 i31 i32 : Nat) (L : Pg → Pg → Pg → Array Bool) (F : Value → Value → Value → Value → Value → Value → Act)
    (St : Pg → Pg → Pg → Value → Value → Value → Value → Value → Value → World → Prop)
    (hready : ∀ p1 p2 p3, 0 < p1.left + p2.left + p3.left → (p2.left = 0 → p1.left = 0) → (p3.left = 0 → p2.left = 0) → Region.ready md ops (L p1 p2 p3) = rdy i11 i12 i21 i22 i31 i32 p1 p2 p3)
    (s11 : ∀ p2 p3, (L .z p2 p3).setIfInBounds i11 true = L .s p2 p3) (s12 : ∀ p2 p3, (L .s p2 p3).setIfInBounds i12 true = L .d p2 p3)
    (s21 : ∀ p1 p3, (L p1 .z p3).setIfInBounds i21 true = L p1 .s p3) (s22 : ∀ p1 p3, (L p1 .s p3).setIfInBounds i22 true = L p1 .d p3)
    (s31 : ∀ p1 p2, (L p1 p2 .z).setIfInBounds i31 true = L p1 p2 .s) (s32 : ∀ p1 p2, (L p1 p2 .s).setIfInBounds i32 true = L p1 p2 .d)
    (hS : ∀ p1 p2 p3 a b c d e g w, St p1 p2 p3 a b c d e g w → S w)
    (t11 : ∀ p2 p3 a b c d e g w, St .z p2 p3 a b c d e g w → StepOf P ops Q i11 (F a b c d e g) w (fun K => ∀ v w', St .s p2 p3 v b c d e g w' → K (F v b c d e g) w'))
    (t12 : ∀ p2 p3 a b c d e g w, St .s p2 p3 a b c d e g w → StepOf P ops Q i12 (F a b c d e g) w (fun K => ∀ v w', St .d p2 p3 a v c d e g w' → K (F a v c d e g) w'))
    (t21 : ∀ p1 p3 a b c d e g w, St p1 .z p3 a b c d e g w → StepOf P ops Q i21 (F a b c d e g) w (fun K => ∀ v w', St p1 .s p3 a b v d e g w' → K (F a b v d e g) w'))
    (t22 : ∀ p1 p3 a b c d e g w, St p1 .s p3 a b c d e g w → StepOf P ops Q i22 (F a b c d e g) w (fun K => ∀ v w', St p1 .d p3 a b c v e g w' → K (F a b c v e g) w'))
    (t31 : ∀ p1 p2 a b c d e g w, St p1 p2 .z a b c d e g w → StepOf P ops Q i31 (F a b c d e g) w (fun K => ∀ v w', St p1 p2 .s a b c d v g w' → K (F a b c d v g) w'))
    (t32 : ∀ p1 p2 a b c d e g w, St p1 p2 .s a b c d e g w → StepOf P ops Q i32 (F a b c d e g) w (fun K => ∀ v w', St p1 p2 .d a b c d e v w' → K (F a b c d e v) w'))
    (hend : ∀ a b c d e g w, St .d .d .d a b c d e g w → S w → wpAnyH P md ops Q S f (L .d .d .d) (F a b c d e g) w) :
    ∀ a b c d e g w, St .z .z .z a b c d e g w → wpAnyH P md ops Q S (f + 6) (L .z .z .z) (F a b c d e g) w := by
  have e0 : Pg.z.left = 2 := rfl
  have e1 : Pg.s.left = 1 := rfl
  have e2 : Pg.d.left = 0 := rfl
  have key : ∀ r p1 p2 p3 a b c d e g w, (p2.left = 0 → p1.left = 0) → (p3.left = 0 → p2.left = 0) → p1.left + p2.left + p3.left = r → St p1 p2 p3 a b c d e g w → wpAnyH P md ops Q S (f + r) (L p1 p2 p3) (F a b c d e g) w := by
    intro r
    induction r with
    | zero =>
      intro p1 p2 p3 a b c d e g w _ _ hr hst
      have e1 : p1 = .d := by cases p1 <;> simp [Pg.left] at hr <;> rfl
      have e2 : p2 = .d := by cases p2 <;> simp [Pg.left] at hr <;> rfl
      have e3 : p3 = .d := by cases p3 <;> simp [Pg.left] at hr <;> rfl
      subst e1 e2 e3
      exact hend a b c d e g w hst (hS _ _ _ _ _ _ _ _ _ _ hst)
    | succ r ih =>
      intro p1 p2 p3 a b c d e g w ho2 ho3 hr hst
      refine ⟨fun h0 => ?_, fun i hi => ?_⟩
      · rw [hready p1 p2 p3 (by omega) ho2 ho3] at h0
        exfalso
        cases p1 <;> cases p2 <;> cases p3 <;> simp [rdy, rdyOne, rdyNext, Pg.left] at h0 hr
      · rw [hready p1 p2 p3 (by omega) ho2 ho3] at hi
        unfold rdy at hi
        rcases List.mem_append.1 hi with hi | hi
        · rcases List.mem_append.1 hi with hi | hi
          · cases p1 with
            | z => simp only [rdyOne, List.mem_singleton] at hi; subst hi; exact t11 p2 p3 a b c d e g w hst _ fun v w' h' => ⟨hS _ _ _ _ _ _ _ _ _ _ h', by rw [s11]; exact ih _ _ _ _ _ _ _ _ _ _ (by omega) (by omega) (by omega) h'⟩
            | s => simp only [rdyOne, List.mem_singleton] at hi; subst hi; exact t12 p2 p3 a b c d e g w hst _ fun v w' h' => ⟨hS _ _ _ _ _ _ _ _ _ _ h', by rw [s12]; exact ih _ _ _ _ _ _ _ _ _ _ (by omega) (by omega) (by omega) h'⟩
            | d => cases hi
          · cases p2 with
            | z => simp only [rdyNext, List.mem_singleton] at hi; subst hi; exact t21 p1 p3 a b c d e g w hst _ fun v w' h' => ⟨hS _ _ _ _ _ _ _ _ _ _ h', by rw [s21]; exact ih _ _ _ _ _ _ _ _ _ _ (by omega) (by omega) (by omega) h'⟩
            | s =>
              cases p1 with
              | z => simp [rdyNext, Pg.left] at hi
              | s => simp [rdyNext, Pg.left] at hi
              | d => simp only [rdyNext, Pg.left, if_true, List.mem_singleton] at hi; subst hi; exact t22 .d p3 a b c d e g w hst _ fun v w' h' => ⟨hS _ _ _ _ _ _ _ _ _ _ h', by rw [s22]; exact ih _ _ _ _ _ _ _ _ _ _ (by omega) (by omega) (by omega) h'⟩
            | d => cases hi
        · cases p3 with
          | z => simp only [rdyNext, List.mem_singleton] at hi; subst hi; exact t31 p1 p2 a b c d e g w hst _ fun v w' h' => ⟨hS _ _ _ _ _ _ _ _ _ _ h', by rw [s31]; exact ih _ _ _ _ _ _ _ _ _ _ (by omega) (by omega) (by omega) h'⟩
          | s =>
            cases p2 with
            | z => simp [rdyNext, Pg.left] at hi
            | s => simp [rdyNext, Pg.left] at hi
            | d => simp only [rdyNext, Pg.left, if_true, List.mem_singleton] at hi; subst hi; exact t32 p1 .d a b c d e g w hst _ fun v w' h' => ⟨hS _ _ _ _ _ _ _ _ _ _ h', by rw [s32]; exact ih _ _ _ _ _ _ _ _ _ _ (by omega) (by omega) (by omega) h'⟩
          | d => cases hi
  exact fun a b c d e g w => key 6 .z .z .z a b c d e g w (by decide) (by decide) rfl
theorem to_lanes {listed listed' : Array Bool} {fuel fuel' : Nat} {a a' : Act} {w : World} (h : wpAnyH P md ops Q S fuel' listed' a' w) (hl : listed = listed') (hf : fuel = fuel') (ha : a = a') : wpAnyH P md ops Q S fuel listed a w := by subst hl; subst hf; subst ha; exact h
end
end Go.Proofs.Ytlnhdfdalfoocaa
