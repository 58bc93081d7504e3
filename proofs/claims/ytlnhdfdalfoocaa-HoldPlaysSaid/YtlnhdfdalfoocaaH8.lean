/- A hold that the call itself has made, as a list of pairs (a key, its bytes); what each of its methods does to that list. R: blocks that are not the hold's. -/
import Derived.Test.YtlnhdfdalfoocaaH7
namespace Go.Proofs.Ytlnhdfdalfoocaa
open Go.RowKit

abbrev Pr := ByteArray × List UInt8
def En.pair (e : En) : Pr := (e.key, e.data)
def othP (m : List Pr) (key : ByteArray) : List Pr := m.filter fun p => decide (p.1 ≠ key)
def hasP (m : List Pr) (key : ByteArray) : Bool := m.any fun p => decide (p.1 = key)
def totP (m : List Pr) : Nat := (m.map fun p => p.2.length).sum
def evP (lim : Int) : List Pr → List Pr
  | [] => []
  | p :: r => if lim < (totP (p :: r) : Int) then evP lim r else p :: r
def putP (quota : Int) (m : List Pr) (key : ByteArray) (data : List UInt8) : List Pr := if (data.length : Int) ≤ quota then evP (quota - data.length) (othP m key) ++ [(key, data)] else othP m key
def keysP (m : List Pr) : List ByteArray := m.map (·.1)

theorem pair_oth (l : List En) (key : ByteArray) : (oth l key).map En.pair = othP (l.map En.pair) key := by
  unfold oth othP
  rw [List.filter_map]
  rfl
theorem pair_has (l : List En) (key : ByteArray) : has l key = hasP (l.map En.pair) key := by
  unfold has hasP
  rw [List.any_map]
  rfl
theorem pair_total (l : List En) : totP (l.map En.pair) = total l := by unfold total totP; rw [List.map_map]; rfl
theorem pair_keys (l : List En) : keysP (l.map En.pair) = keysOf l := by unfold keysP keysOf; rw [List.map_map]; rfl
theorem pair_evict (lim : Int) (l : List En) : (evict lim l).map En.pair = evP lim (l.map En.pair) := by
  induction l with
  | nil => rfl
  | cons e r ih =>
    have h := pair_total (e :: r)
    unfold evict
    rw [List.map_cons] at h ⊢
    unfold evP
    rw [h]
    split
    · exact ih
    · rw [List.map_cons]
theorem totP_append (a b : List Pr) : totP (a ++ b) = totP a + totP b := by simp [totP]
theorem evP_le (lim : Int) (m : List Pr) (h : 0 ≤ lim) : (totP (evP lim m) : Int) ≤ lim := by
  induction m with
  | nil => simp [evP, totP]; exact h
  | cons p r ih =>
    unfold evP
    split
    · exact ih
    · omega
theorem evP_suffix (lim : Int) (m : List Pr) : evP lim m <:+ m := by
  induction m with
  | nil => exact List.suffix_refl _
  | cons p r ih =>
    unfold evP
    split
    · exact ih.trans (List.suffix_cons _ _)
    · exact List.suffix_refl _
theorem totP_othP (m : List Pr) (key : ByteArray) : totP (othP m key) ≤ totP m := by
  induction m with
  | nil => simp [othP]
  | cons e r ih =>
    unfold othP at ih ⊢
    rw [List.filter_cons]
    split <;> simp [totP] at ih ⊢ <;> omega
theorem othP_length (m : List Pr) (key : ByteArray) : (othP m key).length ≤ m.length := List.length_filter_le _ _
theorem keysP_othP (m : List Pr) (key : ByteArray) : keysP (othP m key) = (keysP m).filter fun k => decide (k ≠ key) := by
  unfold keysP othP; rw [List.filter_map]; rfl
theorem othP_sub (m : List Pr) (key : ByteArray) : List.Sublist (othP m key) m := List.filter_sublist
theorem othP_not (m : List Pr) (key : ByteArray) : key ∉ keysP (othP m key) := by
  rw [keysP_othP]; intro h; have := (List.mem_filter.1 h).2; simp at this
theorem nodup_sub {a b : List Pr} (h : List.Sublist a b) (hn : (keysP b).Nodup) : (keysP a).Nodup := List.Sublist.nodup (h.map _) hn
theorem nodup_push {a m : List Pr} {key : ByteArray} {data : List UInt8} (ha : List.Sublist a (othP m key)) (hn : (keysP m).Nodup) : (keysP (a ++ [(key, data)])).Nodup := by
  have h1 := nodup_sub (ha.trans (othP_sub m key)) hn
  have h2 : key ∉ keysP a := fun h => othP_not m key ((ha.map (·.1)).subset h)
  unfold keysP at h1 h2 ⊢
  rw [List.map_append, List.nodup_append]
  exact ⟨h1, by simp, fun x hx y hy e => by simp at hy; subst hy; exact h2 (e ▸ hx)⟩

/-! the hold that the call has made -/
def HSx (w wr : World) (bh : Nat) (quota : Int) (R : Nat → Prop) (l : List En) (g : Option Nat) : Prop :=
  HAt wr bh quota l g ∧ Kept NoB w wr ∧ (∀ k, HB bh g l k → w.heap.size ≤ k) ∧ ∀ k, R k → w.heap.size ≤ k ∧ k < wr.heap.size ∧ ¬ HB bh g l k
def HQ (quota : Int) (m : List Pr) : Prop := (keysP m).Nodup ∧ (totP m : Int) ≤ quota ∧ 0 ≤ quota ∧ quota ≤ 32768
def HS (w wr : World) (bh : Nat) (quota : Int) (m : List Pr) (R : Nat → Prop) : Prop :=
  (∃ l g, l.map En.pair = m ∧ HSx w wr bh quota R l g) ∧ HQ quota m
section
variable {w wr w' : World} {bh : Nat} {quota : Int} {m : List Pr} {R T : Nat → Prop}
theorem HS.old (h : HS w wr bh quota m R) : Kept NoB w wr := by obtain ⟨⟨_, _, _, _, h2, _⟩, _⟩ := h; exact h2
theorem HS.kept (h : HS w wr bh quota m R) (hk : Kept T wr w') (hT : ∀ k, T k → R k) : HS w w' bh quota m R := by
  obtain ⟨⟨l, g, h0, h1, h2, h3, h4⟩, h5⟩ := h
  refine ⟨⟨l, g, h0, h1.kept hk (fun k hb ht => (h4 k (hT k ht)).2.2 hb), h2.trans hk (fun k hlt ht => ?_), h3, fun k hR => ⟨(h4 k hR).1, Nat.lt_of_lt_of_le (h4 k hR).2.1 hk.size, (h4 k hR).2.2⟩⟩, h5⟩
  have := (h4 k (hT k ht)).1
  omega
theorem HS.calm (h : HS w wr bh quota m R) (hk : Kept NoB wr w') : HS w w' bh quota m R := h.kept hk (fun _ h => h.elim)
theorem HS.free (h : HS w wr bh quota m R) (hT : ∀ k, T k → R k) : HS w wr bh quota m T := by
  obtain ⟨⟨l, g, h0, h1, h2, h3, h4⟩, h5⟩ := h
  exact ⟨⟨l, g, h0, h1, h2, h3, fun k hk => h4 k (hT k hk)⟩, h5⟩
/-- blocks that are new are not the hold's -/
theorem HS.add (h : HS w wr bh quota m R) (hk : Kept NoB wr w') (hT : ∀ k, T k → wr.heap.size ≤ k ∧ k < w'.heap.size) : HS w w' bh quota m (fun k => R k ∨ T k) := by
  obtain ⟨⟨l, g, h0, h1, h2, h3, h4⟩, h5⟩ := h
  refine ⟨⟨l, g, h0, h1.calm hk, h2.then hk, h3, fun k hR => ?_⟩, h5⟩
  rcases hR with hR | hR
  · exact ⟨(h4 k hR).1, Nat.lt_of_lt_of_le (h4 k hR).2.1 hk.size, (h4 k hR).2.2⟩
  · have h6 := hT k hR
    have h7 := h2.size
    exact ⟨by omega, h6.2, fun hb => by have := h1.lt k hb; omega⟩
theorem HSx.step {l l' : List En} {g g' : Option Nat} {m' : List Pr} (h : HSx w wr bh quota R l g) (S : Step wr w' bh quota l g l' g') (hm : l'.map En.pair = m') (hq : HQ quota m') : HS w w' bh quota m' R ∧ Kept (fun k => ¬ R k) wr w' := by
  obtain ⟨h1, h2, h3, h4⟩ := h
  have hs := h2.size
  refine ⟨⟨⟨l', g', hm, S.at', h2.trans S.kept (fun i hi e => ?_), fun k hb => ?_, fun k hR => ?_⟩, hq⟩, S.kept.mono (fun k _ e hR => ?_)⟩
  · have : HB bh g l i := by
      rcases e with e | e
      · exact .inl e
      · exact .inr (.inl e)
    have := h3 i this
    omega
  · rcases hb with e | e | ⟨x, hx, e⟩
    · exact h3 k (.inl e)
    · rcases S.newg with h5 | ⟨k1, h5, h6⟩
      · exact h3 k (.inr (.inl (h5 ▸ e)))
      · rw [h5] at e; cases e; omega
    · rcases S.news x hx with h5 | h5
      · exact h3 k (.inr (.inr ⟨x, h5, e⟩))
      · have := h5 k e; omega
  · obtain ⟨a1, a2, a3⟩ := h4 k hR
    refine ⟨a1, Nat.lt_of_lt_of_le a2 S.kept.size, fun hb => ?_⟩
    rcases hb with e | e | ⟨x, hx, e⟩
    · exact a3 (.inl e)
    · rcases S.newg with h5 | ⟨k1, h5, h6⟩
      · exact a3 (.inr (.inl (h5 ▸ e)))
      · rw [h5] at e; cases e; omega
    · rcases S.news x hx with h5 | h5
      · exact a3 (.inr (.inr ⟨x, h5, e⟩))
      · have := h5 k e; omega
  · have hb : HB bh g l k := by
      rcases e with e | e
      · exact .inl e
      · exact .inr (.inl e)
    exact (h4 k hR).2.2 hb

/-! the methods -/
theorem hs_new (n : Int) (hk : Kept NoB w wr) (hR : ∀ k, R k → w.heap.size ≤ k ∧ k < wr.heap.size) :
    Calls Try.prog 8 #[.int .i64 n] wr fun e w' => e = .returned (.pointer (some ⟨wr.heap.size, 0, none⟩)) ∧ HS w w' wr.heap.size (clamp n) [] R ∧ Kept NoB wr w' := by
  refine (new_any n wr).mono ?_
  rintro e w' ⟨rfl, rfl⟩
  have hk' : Kept NoB wr (wr.alloc (.cells #[.slice none 0 0, .int .i64 (clamp n)] 51)) := (Kept.refl _ _).alloc _
  have hs := hk.size
  refine ⟨rfl, ⟨⟨[], none, rfl, ⟨.slice none 0 0, 0, heap_alloc_new wr _, Row.nil _ _ _, rfl, fun e he => by cases he⟩, hk.then hk', fun k hb => ?_, fun k hr => ?_⟩, ?_⟩, hk'⟩
  · rcases hb with e | e | ⟨x, hx, e⟩
    · omega
    · cases e
    · cases hx
  · have h1 := hR k hr
    refine ⟨h1.1, by simp; omega, fun hb => ?_⟩
    rcases hb with e | e | ⟨x, hx, e⟩
    · omega
    · cases e
    · cases hx
  · have := clamp_le n
    exact ⟨by simp [keysP], by simp [totP]; omega, by omega, by omega⟩
theorem len_of_map {l : List En} {m : List Pr} (h : l.map En.pair = m) : l.length = m.length := by rw [← h, List.length_map]
theorem hs_put (h : HS w wr bh quota m R) (key : ByteArray) (ao : Option Addr) (c : Nat) (data : List UInt8) (hlen : m.length ≤ 4095) (hsrc : Src wr 1 (.slice ao data.length c) data.length (bcells data)) (hoff : ∀ a, ao = some a → 0 < data.length → a.block < w.heap.size ∨ R a.block) :
    Calls Try.prog 14 #[.pointer (some ⟨bh, 0, none⟩), .string key, .slice ao data.length c] wr fun e w' => e = .returned (.bool (decide ((data.length : Int) ≤ quota))) ∧ HS w w' bh quota (putP quota m key data) R ∧ Kept (fun k => ¬ R k) wr w' := by
  obtain ⟨⟨l, g, hm, hx⟩, hq⟩ := h
  have hl := len_of_map hm
  have hnd : (keysOf l).Nodup := by rw [← pair_keys, hm]; exact hq.1
  have htot : total l ≤ 32768 := by rw [← pair_total, hm]; have := hq.2.1; have := hq.2.2.2; omega
  by_cases hfit : (data.length : Int) ≤ quota
  · refine (put_fits bh quota l g key ao c data wr hx.1 (by omega) hnd hq.2.2.2 htot hfit hsrc (fun a ha hpos hw => ?_)).mono ?_
    · have hb : HB bh g l a.block := by
        rcases hw with e | e
        · exact .inl e
        · exact .inr (.inl e)
      rcases hoff a ha hpos with h1 | h1
      · have := hx.2.2.1 _ hb; omega
      · exact (hx.2.2.2 _ h1).2.2 hb
    · rintro e w' ⟨rfl, x, g', rfl, rfl, _, S⟩
      refine ⟨by rw [decide_eq_true hfit], hx.step S (by rw [List.map_append, pair_evict, pair_oth, hm]; unfold putP; rw [if_pos hfit]; rfl) ?_⟩
      unfold putP
      rw [if_pos hfit]
      refine ⟨nodup_push (evP_suffix _ _).sublist hq.1, ?_, hq.2.2⟩
      have := evP_le (quota - x.data.length) (othP m x.key) (by omega)
      rw [totP_append]
      simp [totP] at this ⊢
      omega
  · refine (put_big bh quota l g key ao data.length c wr hx.1 (by omega) hnd (by omega)).mono ?_
    rintro e w' ⟨rfl, S⟩
    refine ⟨by rw [decide_eq_false hfit], hx.step S (by rw [pair_oth, hm]; unfold putP; rw [if_neg hfit]) ?_⟩
    unfold putP
    rw [if_neg hfit]
    refine ⟨nodup_sub (othP_sub m key) hq.1, ?_, hq.2.2⟩
    have := totP_othP m key
    have := hq.2.1
    omega
theorem hs_drop (h : HS w wr bh quota m R) (key : ByteArray) (hlen : m.length ≤ 4095) :
    Calls Try.prog 12 #[.pointer (some ⟨bh, 0, none⟩), .string key] wr fun e w' => e = .returned (.bool (hasP m key)) ∧ HS w w' bh quota (othP m key) R ∧ Kept (fun k => ¬ R k) wr w' := by
  obtain ⟨⟨l, g, hm, hx⟩, hq⟩ := h
  have hl := len_of_map hm
  have hnd : (keysOf l).Nodup := by rw [← pair_keys, hm]; exact hq.1
  refine (drop_any bh quota l g key wr hx.1 (by omega) hnd).mono ?_
  rintro e w' ⟨rfl, S⟩
  refine ⟨by rw [pair_has, hm], hx.step S (by rw [pair_oth, hm]) ⟨nodup_sub (othP_sub m key) hq.1, ?_, hq.2.2⟩⟩
  have := totP_othP m key
  have := hq.2.1
  omega
theorem hs_used (h : HS w wr bh quota m R) (hlen : m.length ≤ 4095) :
    Calls Try.prog 16 #[.pointer (some ⟨bh, 0, none⟩)] wr fun e w' => e = .returned (.int .i64 (totP m)) ∧ Kept NoB wr w' := by
  obtain ⟨⟨l, g, hm, hx⟩, hq⟩ := h
  have hl := len_of_map hm
  have htot : total l ≤ 1000000 := by rw [← pair_total, hm]; have := hq.2.1; have := hq.2.2.2; omega
  refine (used_any bh quota l g (by omega) wr hx.1 htot).mono ?_
  rintro e w' ⟨rfl, k⟩
  exact ⟨by rw [← hm, pair_total], k⟩
theorem hs_keys (h : HS w wr bh quota m R) (hlen : m.length ≤ 4095) :
    Calls Try.prog 19 #[.pointer (some ⟨bh, 0, none⟩)] wr fun e w' => ∃ v, e = .returned v ∧ FreshK wr w' v (keysP m) := by
  obtain ⟨⟨l, g, hm, hx⟩, hq⟩ := h
  have hl := len_of_map hm
  refine (keys_any bh quota l g (by omega) wr hx.1).mono ?_
  rintro e w' ⟨v, rfl, k⟩
  exact ⟨v, rfl, by rw [← hm, pair_keys]; exact k⟩

/-- what Get leaves: the value's own block is not the hold's -/
def GotP (w wr : World) (bh : Nat) (quota : Int) (m : List Pr) (R : Nat → Prop) (key : ByteArray) (data : List UInt8) (e : Ending) (w' : World) : Prop :=
  ∃ ao, e = .returned (.tuple #[.slice ao data.length data.length, .bool true]) ∧ Row w' 5 1 (.slice ao data.length data.length) data.length data.length (bcells data) ∧
    HS w w' bh quota (othP m key ++ [(key, data)]) (fun k => R k ∨ (Value.slice ao data.length data.length).ownBlock = some k) ∧ Kept (fun k => ¬ R k) wr w' ∧ ∀ k, (Value.slice ao data.length data.length).ownBlock = some k → wr.heap.size ≤ k
theorem HQ.get {quota : Int} {m : List Pr} {key : ByteArray} {data : List UInt8} (hq : HQ quota m) (hmem : (key, data) ∈ m) : HQ quota (othP m key ++ [(key, data)]) := by
  refine ⟨nodup_push (List.Sublist.refl _) hq.1, ?_, hq.2.2⟩
  have h1 : totP (othP m key) + data.length ≤ totP m := by
    have h2 := hq.1
    clear hq
    induction m with
    | nil => cases hmem
    | cons p r ih =>
      simp only [keysP, List.map_cons, List.nodup_cons] at h2
      rcases List.mem_cons.1 hmem with e | e
      · subst e
        have : othP ((key, data) :: r) key = othP r key := by unfold othP; rw [List.filter_cons_of_neg (by simp)]
        rw [this]
        have := totP_othP r key
        simp [totP] at this ⊢
        omega
      · have hne : p.1 ≠ key := fun e1 => h2.1 (by rw [e1]; exact List.mem_map_of_mem (f := (·.1)) e)
        have : othP (p :: r) key = p :: othP r key := by unfold othP; rw [List.filter_cons_of_pos (by simpa using hne)]
        rw [this]
        have := ih e h2.2
        simp [totP] at this ⊢
        omega
  have := hq.2.1
  rw [totP_append]
  simp [totP] at h1 this ⊢
  omega
theorem hs_get_yes (h : HS w wr bh quota m R) (key : ByteArray) (data : List UInt8) (hlen : m.length ≤ 4095) (hmem : (key, data) ∈ m) :
    Calls Try.prog 10 #[.pointer (some ⟨bh, 0, none⟩), .string key] wr (GotP w wr bh quota m R key data) := by
  obtain ⟨⟨l, g, hm, hx⟩, hq⟩ := h
  have hl := len_of_map hm
  have hnd : (keysOf l).Nodup := by rw [← pair_keys, hm]; exact hq.1
  have htot : total l ≤ 32768 := by rw [← pair_total, hm]; have := hq.2.1; have := hq.2.2.2; omega
  obtain ⟨x, hxl, hxp⟩ : ∃ x ∈ l, En.pair x = (key, data) := by rw [← hm] at hmem; simpa using hmem
  obtain ⟨k, hk, rfl⟩ := List.getElem_of_mem hxl
  have hkey : l[k].key = key := congrArg Prod.fst hxp
  have hdat : l[k].data = data := congrArg Prod.snd hxp
  have hd : l[k].data.length ≤ 32768 := by
    have h1 := total_take l (k + 1)
    rw [List.take_succ_eq_append_getElem hk, total_snoc] at h1
    omega
  refine (get_yes bh quota l g key wr hx.1 (by omega) k hk hkey hnd hd).mono ?_
  rintro e w' ⟨ao, rfl, hr, g', S, hown⟩
  rw [hdat] at hr hown ⊢
  have hst := hx.step (m' := othP m key ++ [(key, data)]) S (by rw [List.map_append, pair_oth, hm]; simp [En.pair, hkey, hdat]) (hq.get hmem)
  refine ⟨ao, rfl, hr, ?_, hst.2, fun k hk => (hown k hk).1⟩
  refine ⟨⟨oth l key ++ [l[k]], g', ?_, S.at', hst.1.old, ?_, ?_⟩, hst.1.2⟩
  · rw [List.map_append, pair_oth, hm]; simp [En.pair, hkey, hdat]
  · intro i hb
    rcases hb with e | e | ⟨y, hy, e⟩
    · exact hx.2.2.1 i (.inl e)
    · rcases S.newg with h5 | ⟨k1, h5, h6⟩
      · exact hx.2.2.1 i (.inr (.inl (h5 ▸ e)))
      · rw [h5] at e; cases e; have := hx.2.1.size; omega
    · rcases S.news y hy with h5 | h5
      · exact hx.2.2.1 i (.inr (.inr ⟨y, h5, e⟩))
      · have := h5 i e; have := hx.2.1.size; omega
  · intro i hR
    rcases hR with hR | hR
    · obtain ⟨a1, a2, a3⟩ := hx.2.2.2 i hR
      refine ⟨a1, Nat.lt_of_lt_of_le a2 S.kept.size, fun hb => ?_⟩
      rcases hb with e | e | ⟨y, hy, e⟩
      · exact a3 (.inl e)
      · rcases S.newg with h5 | ⟨k1, h5, h6⟩
        · exact a3 (.inr (.inl (h5 ▸ e)))
        · rw [h5] at e; cases e; omega
      · rcases S.news y hy with h5 | h5
        · exact a3 (.inr (.inr ⟨y, h5, e⟩))
        · have := h5 i e; omega
    · have h6 := hown i hR
      have := hx.2.1.size
      exact ⟨by omega, hr.lt i hR, h6.2⟩
theorem hs_get_no (h : HS w wr bh quota m R) (key : ByteArray) (hlen : m.length ≤ 4095) (hno : key ∉ keysP m) :
    Calls Try.prog 10 #[.pointer (some ⟨bh, 0, none⟩), .string key] wr fun e w' => e = .returned (.tuple #[.slice none 0 0, .bool false]) ∧ Kept NoB wr w' := by
  obtain ⟨⟨l, g, hm, hx⟩, hq⟩ := h
  have hl := len_of_map hm
  exact get_no bh quota l g key wr hx.1 (by omega) (fun e he hk => hno (by rw [← hm, pair_keys, ← hk]; exact List.mem_map_of_mem he))
end
end Go.Proofs.Ytlnhdfdalfoocaa
