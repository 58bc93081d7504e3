/- The hold and the reference, side by side, as two lists of pairs. -/
import Derived.Test.YtlnhdfdalfoocaaR7
import Derived.Test.YtlnhdfdalfoocaaHA
import Derived.Test.YtlnhdfdalfoocaaHRoom1
namespace Go.Proofs.Ytlnhdfdalfoocaa
open Go.RowKit

def HRx (w wr : World) (bh br : Nat) (quota : Int) (mh mr : List Pr) (K : Nat) (R : Nat → Prop) (now : Nat) (l : List Rn) (vk vd vw : Value) (ck cd cw : Nat) : Prop :=
  HS w wr bh quota mh (fun k => RB br vk vd vw k ∨ R k) ∧ RAt wr br quota now l vk vd vw ck cd cw ∧ Sim mr l now ∧ HQ quota mr ∧ now ≤ K ∧ mr.length ≤ K ∧ ∀ k, R k → ¬ RB br vk vd vw k
def HR (w wr : World) (bh br : Nat) (quota : Int) (mh mr : List Pr) (K : Nat) (R : Nat → Prop) : Prop := ∃ now l vk vd vw ck cd cw, HRx w wr bh br quota mh mr K R now l vk vd vw ck cd cw
section
variable {w wr w' : World} {bh br : Nat} {quota : Int} {mh mr mh' mr' : List Pr} {K K' : Nat} {R T : Nat → Prop} {now now' : Nat} {l l' : List Rn} {vk vd vw : Value} {ck cd cw : Nat}
theorem HR.old (h : HR w wr bh br quota mh mr K R) : Kept NoB w wr := by obtain ⟨_, _, _, _, _, _, _, _, h, _⟩ := h; exact h.old
theorem HR.calm (h : HR w wr bh br quota mh mr K R) (hk : Kept NoB wr w') : HR w w' bh br quota mh mr K R := by
  obtain ⟨now, l, vk, vd, vw, ck, cd, cw, h1, h2, h3⟩ := h
  exact ⟨now, l, vk, vd, vw, ck, cd, cw, h1.calm hk, h2.calm hk, h3⟩
theorem HR.free (h : HR w wr bh br quota mh mr K R) (hT : ∀ k, T k → R k) : HR w wr bh br quota mh mr K T := by
  obtain ⟨now, l, vk, vd, vw, ck, cd, cw, h1, h2, h3, h4, h5, h6, h7⟩ := h
  exact ⟨now, l, vk, vd, vw, ck, cd, cw, h1.free (fun k hk => hk.imp id (hT k)), h2, h3, h4, h5, h6, fun k hk => h7 k (hT k hk)⟩
theorem HR.guard (h : HR w wr bh br quota mh mr K R) (hk : Kept NoB wr w') (hT : ∀ k, T k → wr.heap.size ≤ k ∧ k < w'.heap.size) : HR w w' bh br quota mh mr K (fun k => R k ∨ T k) := by
  obtain ⟨now, l, vk, vd, vw, ck, cd, cw, h1, h2, h3, h4, h5, h6, h7⟩ := h
  refine ⟨now, l, vk, vd, vw, ck, cd, cw, (h1.add hk hT).free (fun k hk => ?_), h2.calm hk, h3, h4, h5, h6, fun k hR hb => ?_⟩
  · rcases hk with e | e | e
    · exact .inl (.inl e)
    · exact .inl (.inr e)
    · exact .inr e
  · rcases hR with e | e
    · exact h7 k e hb
    · have := h2.lt k hb
      have := (hT k e).1
      omega
theorem HRx.stepH (h : HRx w wr bh br quota mh mr K R now l vk vd vw ck cd cw) (hs : HS w w' bh quota mh' (fun k => RB br vk vd vw k ∨ R k)) (hk : Kept (fun k => ¬ (RB br vk vd vw k ∨ R k)) wr w') : HR w w' bh br quota mh' mr K R ∧ Kept (fun k => ¬ R k) wr w' := by
  obtain ⟨h1, h2, h3⟩ := h
  exact ⟨⟨now, l, vk, vd, vw, ck, cd, cw, hs, h2.kept hk (fun k hb hn => hn (.inl hb)), h3⟩, hk.mono (fun k _ hn hR => hn (.inr hR))⟩
theorem HRx.stepR (h : HRx w wr bh br quota mh mr K R now l vk vd vw ck cd cw) (hs : RStep wr w' br quota (RB br vk vd vw) l' (now' : Int)) (hm : Sim mr' l' now') (hq : HQ quota mr') (hn : now' ≤ K') (hl : mr'.length ≤ K') : HR w w' bh br quota mh mr' K' R ∧ Kept (fun k => ¬ R k) wr w' := by
  obtain ⟨h1, h2, _, _, _, _, h7⟩ := h
  obtain ⟨vk', vd', vw', ck', cd', cw', g1, g2, g3⟩ := hs
  refine ⟨⟨now', l', vk', vd', vw', ck', cd', cw', h1.turned g2 (fun k e => .inl e) (fun k hU => ?_), g1, hm, hq, hn, hl, fun k hR hb => ?_⟩, g2.mono (fun k _ hb hR => h7 k hR hb)⟩
  · rcases hU with e | e
    · rcases g3 k e with e2 | e2
      · exact .inl (.inl e2)
      · exact .inr ⟨e2, g1.lt k e⟩
    · exact .inl (.inr e)
  · rcases g3 k hb with e2 | e2
    · exact h7 k hR e2
    · obtain ⟨⟨_, _, _, _, _, _, h4⟩, _⟩ := h1
      have := (h4 k (.inr hR)).2.1
      omega

/-! the methods -/
theorem hr_hdrop (h : HR w wr bh br quota mh mr K R) (key : ByteArray) (hlen : mh.length ≤ 4095) :
    Calls Try.prog 12 #[.pointer (some ⟨bh, 0, none⟩), .string key] wr fun e w' => e = .returned (.bool (hasP mh key)) ∧ HR w w' bh br quota (othP mh key) mr K R ∧ Kept (fun k => ¬ R k) wr w' := by
  obtain ⟨now, l, vk, vd, vw, ck, cd, cw, hx⟩ := h
  exact (hs_drop hx.1 key hlen).mono fun _ _ ⟨he, hs, hk⟩ => ⟨he, hx.stepH hs hk⟩
theorem hr_hput (h : HR w wr bh br quota mh mr K R) (key : ByteArray) (ao : Option Addr) (c : Nat) (data : List UInt8) (hlen : mh.length ≤ 4095) (hsrc : Src wr 1 (.slice ao data.length c) data.length (bcells data)) (hoff : ∀ a, ao = some a → 0 < data.length → a.block < w.heap.size) :
    Calls Try.prog 14 #[.pointer (some ⟨bh, 0, none⟩), .string key, .slice ao data.length c] wr fun e w' => e = .returned (.bool (decide ((data.length : Int) ≤ quota))) ∧ HR w w' bh br quota (putP quota mh key data) mr K R ∧ Kept (fun k => ¬ R k) wr w' := by
  obtain ⟨now, l, vk, vd, vw, ck, cd, cw, hx⟩ := h
  exact (hs_put hx.1 key ao c data hlen hsrc (fun a ha hp => .inl (hoff a ha hp))).mono fun _ _ ⟨he, hs, hk⟩ => ⟨he, hx.stepH hs hk⟩
theorem hr_hused (h : HR w wr bh br quota mh mr K R) (hlen : mh.length ≤ 4095) :
    Calls Try.prog 16 #[.pointer (some ⟨bh, 0, none⟩)] wr fun e w' => e = .returned (.int .i64 (totP mh)) ∧ Kept NoB wr w' := by
  obtain ⟨now, l, vk, vd, vw, ck, cd, cw, hx⟩ := h
  exact hs_used hx.1 hlen
theorem hr_hkeys (h : HR w wr bh br quota mh mr K R) (hlen : mh.length ≤ 4095) :
    Calls Try.prog 19 #[.pointer (some ⟨bh, 0, none⟩)] wr fun e w' => ∃ v, e = .returned v ∧ Row w' 9 1 v (keysP mh).length (keysP mh).length (kcells (keysP mh)) ∧ Kept NoB wr w' := by
  obtain ⟨now, l, vk, vd, vw, ck, cd, cw, hx⟩ := h
  exact (hs_keys hx.1 hlen).mono fun _ _ ⟨v, he, f⟩ => ⟨v, he, f.2.1, f.2.2.1⟩
theorem hr_hget_yes (h : HR w wr bh br quota mh mr K R) (key : ByteArray) (data : List UInt8) (hlen : mh.length ≤ 4095) (hmem : (key, data) ∈ mh) :
    Calls Try.prog 10 #[.pointer (some ⟨bh, 0, none⟩), .string key] wr fun e w' => ∃ ao, e = .returned (.tuple #[.slice ao data.length data.length, .bool true]) ∧ Row w' 5 1 (.slice ao data.length data.length) data.length data.length (bcells data) ∧
      HR w w' bh br quota (othP mh key ++ [(key, data)]) mr K (fun k => R k ∨ (Value.slice ao data.length data.length).ownBlock = some k) ∧ Kept (fun k => ¬ R k) wr w' := by
  obtain ⟨now, l, vk, vd, vw, ck, cd, cw, hx⟩ := h
  refine (hs_get_yes hx.1 key data hlen hmem).mono ?_
  rintro e w' ⟨ao, he, hr, hs, hk, hown⟩
  refine ⟨ao, he, hr, ?_, hk.mono (fun k _ hn hR => hn (.inr hR))⟩
  obtain ⟨_, h2, h3, h4, h5, h6, h7⟩ := hx
  refine ⟨now, l, vk, vd, vw, ck, cd, cw, hs.free (fun k hk => ?_), h2.kept hk (fun k hb hn => hn (.inl hb)), h3, h4, h5, h6, fun k hR hb => ?_⟩
  · rcases hk with e | e | e
    · exact .inl (.inl e)
    · exact .inl (.inr e)
    · exact .inr e
  · rcases hR with e | e
    · exact h7 k e hb
    · have := h2.lt k hb
      have := hown k e
      omega
theorem hr_hget_no (h : HR w wr bh br quota mh mr K R) (key : ByteArray) (hlen : mh.length ≤ 4095) (hno : key ∉ keysP mh) :
    Calls Try.prog 10 #[.pointer (some ⟨bh, 0, none⟩), .string key] wr fun e w' => e = .returned (.tuple #[.slice none 0 0, .bool false]) ∧ HR w w' bh br quota mh mr K R ∧ Kept NoB wr w' := by
  obtain ⟨now, l, vk, vd, vw, ck, cd, cw, hx⟩ := h
  exact (hs_get_no hx.1 key hlen hno).mono fun _ _ ⟨he, hk⟩ => ⟨he, HR.calm ⟨now, l, vk, vd, vw, ck, cd, cw, hx⟩ hk, hk⟩
theorem hr_rdrop (h : HR w wr bh br quota mh mr K R) (key : ByteArray) (hK : K ≤ 1000) :
    Calls Try.prog 13 #[.pointer (some ⟨br, 0, none⟩), .string key] wr fun e w' => e = .returned (.bool (hasP mr key)) ∧ HR w w' bh br quota mh (othP mr key) (K + 1) R ∧ Kept (fun k => ¬ R k) wr w' := by
  obtain ⟨now, l, vk, vd, vw, ck, cd, cw, hx⟩ := h
  have hm := hx.2.2.1
  have hq := hx.2.2.2.1
  have h5 := hx.2.2.2.2.1
  have h6 := hx.2.2.2.2.2.1
  have hl := hm.len
  refine (rdrop_any key wr hx.2.1 (by omega) (hm.nodup hq.1)).mono ?_
  rintro e w' ⟨he, hs⟩
  have := othP_length mr key
  exact ⟨by rw [he, hm.has], hx.stepR hs (hm.oth key) (hq.drop key) (by omega) (by omega)⟩
theorem hr_rused (h : HR w wr bh br quota mh mr K R) (hK : K ≤ 1000) :
    Calls Try.prog 17 #[.pointer (some ⟨br, 0, none⟩)] wr fun e w' => e = .returned (.int .i64 (totP mr)) ∧ wr = w' := by
  obtain ⟨now, l, vk, vd, vw, ck, cd, cw, hx⟩ := h
  have hm := hx.2.2.1
  have hq := hx.2.2.2.1
  have h5 := hx.2.2.2.2.1
  have h6 := hx.2.2.2.2.2.1
  have hl := hm.len
  have ht := hm.tot
  have := hq.2.1
  have := hq.2.2.2
  exact (rused_any wr hx.2.1 (by omega) (by omega)).mono fun _ _ ⟨he, hk⟩ => ⟨by rw [he, ht], hk⟩
theorem hr_order (h : HR w wr bh br quota mh mr K R) (hK : K ≤ 1000) :
    Calls Try.prog 20 #[.pointer (some ⟨br, 0, none⟩)] wr fun e w' => ∃ a c, e = .returned (.slice a (keysP mr).length c) ∧ Row w' 9 1 (.slice a (keysP mr).length c) (keysP mr).length c (kcells (keysP mr)) ∧ Kept NoB wr w' := by
  obtain ⟨now, l, vk, vd, vw, ck, cd, cw, hx⟩ := h
  have hm := hx.2.2.1
  have h5 := hx.2.2.2.2.1
  have h6 := hx.2.2.2.2.2.1
  have hl := hm.len
  refine (order_any wr hx.2.1 (by omega) (by omega)).mono ?_
  rw [hm.order]
  rintro e w' ⟨a, c, he, ho⟩
  exact ⟨a, c, he, ho.2.1, ho.2.2.1⟩
theorem pair_data {r : Rn} {key : ByteArray} {data : List UInt8} (h : r.pair = (key, data)) : r.data = ⟨data.toArray⟩ := by
  have h2 : r.data.data.toList = data := congrArg Prod.snd h
  rw [← h2]
theorem keys_inj {m : List Pr} (hn : (keysP m).Nodup) {p q : Pr} (hp : p ∈ m) (hq : q ∈ m) (h : p.1 = q.1) : p = q := by
  induction m with
  | nil => cases hp
  | cons a r ih =>
    simp only [keysP, List.map_cons, List.nodup_cons] at hn
    rcases List.mem_cons.1 hp with e1 | e1 <;> rcases List.mem_cons.1 hq with e2 | e2
    · rw [e1, e2]
    · exact (hn.1 (by rw [← e1, h]; exact List.mem_map_of_mem (f := (·.1)) e2)).elim
    · exact (hn.1 (by rw [← e2, ← h]; exact List.mem_map_of_mem (f := (·.1)) e1)).elim
    · exact ih hn.2 e1 e2
theorem hr_rget_yes (h : HR w wr bh br quota mh mr K R) (key : ByteArray) (data : List UInt8) (hK : K ≤ 1000) (hmem : (key, data) ∈ mr) :
    Calls Try.prog 11 #[.pointer (some ⟨br, 0, none⟩), .string key] wr fun e w' => e = .returned (.tuple #[.string ⟨data.toArray⟩, .bool true]) ∧ HR w w' bh br quota mh (othP mr key ++ [(key, data)]) (K + 1) R ∧ Kept (fun k => ¬ R k) wr w' := by
  obtain ⟨now, l, vk, vd, vw, ck, cd, cw, hx⟩ := h
  have hm := hx.2.2.1
  have hq := hx.2.2.2.1
  have h5 := hx.2.2.2.2.1
  have h6 := hx.2.2.2.2.2.1
  have hl := hm.len
  refine (rget_any key wr hx.2.1 (by omega) ⟨by omega, by omega⟩).mono ?_
  rintro e w' (⟨k, hk, hkey, he, hs⟩ | ⟨he, hno, hs⟩)
  · have hp : l[k].pair = (key, data) := keys_inj hq.1 (hm.mem k hk) hmem (by show l[k].key = key; exact hkey)
    have hd := pair_data hp
    have hg := hm.get hq.1 k hk ⟨l[k].key, l[k].data, (now : Int) + 1⟩ rfl rfl
    have hpx : Rn.pair ⟨l[k].key, l[k].data, (now : Int) + 1⟩ = (key, data) := hp
    rw [hpx] at hg
    have hkx : (Rn.mk l[k].key l[k].data ((now : Int) + 1)).key = key := hkey
    rw [hkx] at hg
    rw [hkey] at hs
    have := othP_length mr key
    have hlen2 : (othP mr key ++ [(key, data)]).length ≤ K + 1 := by rw [List.length_append]; simp; omega
    exact ⟨by rw [he, hd], hx.stepR (now' := now + 1) hs hg (hq.get hmem) (by omega) hlen2⟩
  · have h1 := (hm.keys.mem_iff (a := key)).1 (List.mem_map_of_mem (f := (·.1)) hmem)
    unfold rkeys at h1
    obtain ⟨r, hr, e⟩ := List.mem_map.1 h1
    exact (hno r hr e).elim
theorem hr_rget_no (h : HR w wr bh br quota mh mr K R) (key : ByteArray) (hK : K ≤ 1000) (hno : key ∉ keysP mr) :
    Calls Try.prog 11 #[.pointer (some ⟨br, 0, none⟩), .string key] wr fun e w' => e = .returned (.tuple #[.string ⟨#[]⟩, .bool false]) ∧ HR w w' bh br quota mh mr (K + 1) R ∧ Kept (fun k => ¬ R k) wr w' := by
  obtain ⟨now, l, vk, vd, vw, ck, cd, cw, hx⟩ := h
  have hm := hx.2.2.1
  have hq := hx.2.2.2.1
  have h5 := hx.2.2.2.2.1
  have h6 := hx.2.2.2.2.2.1
  have hl := hm.len
  refine (rget_any key wr hx.2.1 (by omega) ⟨by omega, by omega⟩).mono ?_
  rintro e w' (⟨k, hk, hkey, he, hs⟩ | ⟨he, _, hs⟩)
  · refine (hno (hm.keys.mem_iff.2 ?_)).elim
    unfold rkeys
    exact List.mem_map.2 ⟨l[k], List.getElem_mem hk, hkey⟩
  · exact ⟨he, hx.stepR hs hm hq (by omega) (by omega)⟩
theorem hr_rput (h : HR w wr bh br quota mh mr K R) (key : ByteArray) (data : List UInt8) (hK : K ≤ 1000) :
    Calls Try.prog 15 #[.pointer (some ⟨br, 0, none⟩), .string key, .string ⟨data.toArray⟩] wr fun e w' => e = .returned (.bool (decide ((data.length : Int) ≤ quota))) ∧ HR w w' bh br quota mh (putP quota mr key data) (K + 1) R ∧ Kept (fun k => ¬ R k) wr w' := by
  obtain ⟨now, l, vk, vd, vw, ck, cd, cw, hx⟩ := h
  have hm := hx.2.2.1
  have hq := hx.2.2.2.1
  have h5 := hx.2.2.2.2.1
  have h6 := hx.2.2.2.2.2.1
  have hl := hm.len
  have ht := hm.tot
  have hq1 := hq.2.1
  have hq2 := hq.2.2.2
  have hsz : (⟨data.toArray⟩ : ByteArray).size = data.length := by simp [ByteArray.size]
  have hpl := putP_length quota mr key data
  have hpq := hq.put key data
  by_cases hfit : (data.length : Int) ≤ quota
  · rw [decide_eq_true hfit]
    refine (rput_fits key ⟨data.toArray⟩ wr hx.2.1 (by omega) (hm.nodup hq.1) (by rw [hsz]; exact hfit) hq2 ⟨by omega, by omega⟩ (by omega)).mono ?_
    rintro e w' ⟨he, l1, hev, hs⟩
    rw [hsz] at hev
    have h8 := (Sim.evict hev (hm.oth key)).pushed ⟨key, ⟨data.toArray⟩, (now : Int) + 1⟩ rfl
    have e1 : Rn.pair ⟨key, ⟨data.toArray⟩, (now : Int) + 1⟩ = (key, data) := by simp [Rn.pair]
    rw [e1] at h8
    have e2 : putP quota mr key data = evP (quota - data.length) (othP mr key) ++ [(key, data)] := by unfold putP; rw [if_pos hfit]
    rw [← e2] at h8
    exact ⟨he, hx.stepR (now' := now + 1) hs h8 hpq (by omega) (by omega)⟩
  · rw [decide_eq_false hfit]
    refine (rput_big key ⟨data.toArray⟩ wr hx.2.1 (by omega) (hm.nodup hq.1) (by rw [hsz]; omega)).mono ?_
    rintro e w' ⟨he, hs⟩
    have e2 : putP quota mr key data = othP mr key := by unfold putP; rw [if_neg hfit]
    rw [e2] at hpl hpq ⊢
    exact ⟨he, hx.stepR hs (hm.oth key) hpq (by omega) (by omega)⟩
end
theorem hr_begin {w w1 : World} {bh : Nat} {quota : Int} {R : Nat → Prop} (h : HS w w1 bh quota [] R) : HR w (w1.alloc (.cells #[.slice none 0 0, .slice none 0 0, .slice none 0 0, .int .i64 0, .int .i64 quota] 54)) bh w1.heap.size quota [] [] 0 (fun _ => False) := by
  have hk : Kept NoB w1 (w1.alloc (.cells #[.slice none 0 0, .slice none 0 0, .slice none 0 0, .int .i64 0, .int .i64 quota] 54)) := (Kept.refl _ _).alloc _
  refine ⟨0, [], .slice none 0 0, .slice none 0 0, .slice none 0 0, 0, 0, 0, (h.add hk (T := fun k => k = w1.heap.size) (fun k e => by subst e; exact ⟨Nat.le_refl _, by simp⟩)).free (fun k hk => .inr ?_), ⟨heap_alloc_new w1 _, Row.nil _ _ _, Row.nil _ _ _, Row.nil _ _ _, fun k e => by cases e⟩, Sim.nil, h.2, Nat.le_refl _, Nat.le_refl _, fun _ h => h.elim⟩
  rcases hk with (e | e | e | e) | e
  · exact e
  · cases e
  · cases e
  · cases e
  · exact e.elim
end Go.Proofs.Ytlnhdfdalfoocaa
