/- What a request, and a slice of requests, that came in read as: cells. -/
import Derived.Test.YtjagoljaocbdcaaQ1
import Derived.Deep.Slices
import Derived.ProofKit
import Derived.OpenShut
import Derived.ChangeOld
namespace Go.Proofs.Ytjagoljaocbdcaa
open Go.ChangeShapes Go.WideShapes Go.ChangeAt Go.RowKit Go.Deep

theorem own : ownKnob Try.prog.godebug = none := by kernel_rfl
theorem laidOut : laidOutB Try.prog = true := by kernel_rfl
theorem cells28 : Try.prog.cellsOf 28 = 6 := by kernel_rfl
theorem cells3 : Try.prog.cellsOf 3 = 1 := by kernel_rfl

section
variable {H : Type} {enc : TypeId × Value → H} {w : World} {base : Nat} {spare : Nat → Bool} {held : Bool}

theorem ask_of {fuel : Nat} {cs : List Value} {x : DataW H × List MemPlace} (h : DataW.trod enc Try.prog w base spare held fuel 28 cs = some x) : ∃ a : Ask, cs = a.cells := by
  obtain ⟨xs, n, _, rfl, hl, hlen, hf⟩ := DataW.trod_struct Try.underlying28 h
  rw [cells28] at hl
  match cs, hl with
  | [c0, c1, c2, c3, c4, c5], _ =>
    match xs, hlen with
    | [y0, y1, y2, y3, y4, y5], _ =>
      have g0 : DataW.trod enc Try.prog w base spare held n 3 (([c0, c1, c2, c3, c4, c5].drop 0).take (Try.prog.cellsOf 3)) = some y0 := hf 0 _ rfl
      rw [cells3] at g0
      obtain ⟨n0, e0, _⟩ := DataW.trod_int Try.underlying3 g0
      have g1 : DataW.trod enc Try.prog w base spare held n 3 (([c0, c1, c2, c3, c4, c5].drop 1).take (Try.prog.cellsOf 3)) = some y1 := hf 1 _ rfl
      rw [cells3] at g1
      obtain ⟨n1, e1, _⟩ := DataW.trod_int Try.underlying3 g1
      have g2 : DataW.trod enc Try.prog w base spare held n 3 (([c0, c1, c2, c3, c4, c5].drop 2).take (Try.prog.cellsOf 3)) = some y2 := hf 2 _ rfl
      rw [cells3] at g2
      obtain ⟨n2, e2, _⟩ := DataW.trod_int Try.underlying3 g2
      have g3 : DataW.trod enc Try.prog w base spare held n 3 (([c0, c1, c2, c3, c4, c5].drop 3).take (Try.prog.cellsOf 3)) = some y3 := hf 3 _ rfl
      rw [cells3] at g3
      obtain ⟨n3, e3, _⟩ := DataW.trod_int Try.underlying3 g3
      have g4 : DataW.trod enc Try.prog w base spare held n 3 (([c0, c1, c2, c3, c4, c5].drop 4).take (Try.prog.cellsOf 3)) = some y4 := hf 4 _ rfl
      rw [cells3] at g4
      obtain ⟨n4, e4, _⟩ := DataW.trod_int Try.underlying3 g4
      have g5 : DataW.trod enc Try.prog w base spare held n 3 (([c0, c1, c2, c3, c4, c5].drop 5).take (Try.prog.cellsOf 3)) = some y5 := hf 5 _ rfl
      rw [cells3] at g5
      obtain ⟨n5, e5, _⟩ := DataW.trod_int Try.underlying3 g5
      have f0 : c0 = _ := (List.cons.inj e0).1
      have f1 : c1 = _ := (List.cons.inj e1).1
      have f2 : c2 = _ := (List.cons.inj e2).1
      have f3 : c3 = _ := (List.cons.inj e3).1
      have f4 : c4 = _ := (List.cons.inj e4).1
      have f5 : c5 = _ := (List.cons.inj e5).1
      subst f0 f1 f2 f3 f4 f5
      exact ⟨⟨n0, n1, n2, n3, n4, n5⟩, rfl⟩

theorem add_two (a : Addr) (m n : Nat) : (a.add m).add n = a.add (m + n) := by
  rcases Nat.eq_zero_or_pos m with rfl | hm
  · simp [Addr.add]
  · rcases Nat.eq_zero_or_pos n with rfl | hn
    · simp [Addr.add]
    · have h1 : m ≠ 0 := by omega
      have h2 : n ≠ 0 := by omega
      have h3 : m + n ≠ 0 := by omega
      simp [Addr.add, h1, h2, Nat.add_assoc]
theorem add_none (b o k : Nat) : (⟨b, o, none⟩ : Addr).add k = ⟨b, o + k, none⟩ := by
  unfold Addr.add; split <;> simp_all

/-- a slice of requests that came in -/
def InAsks (w : World) (ao : Option Addr) (n : Nat) (l : List Ask) : Prop :=
  l.length = n ∧ n ≤ maxLen ∧ (n = 0 ∨ ∃ b off, ao = some ⟨b, off, none⟩ ∧ ∀ i a, l[i]? = some a → ∀ j u, a.cells[j]? = some u → w.cell? ⟨b, off + (i * 6 + j), none⟩ = some u)

theorem asks_of {fuel : Nat} {ao : Option Addr} {n cap : Nat} {x : DataW H × List MemPlace} (h : DataW.trod enc Try.prog w base spare held fuel 37 [.slice ao n cap] = some x) : ∃ l, InAsks w ao n l := by
  rcases open_slice Try.underlying37 h with ⟨hcs, _⟩ | ⟨a, len, cap', m, f, D, Pl, hcs, _, hl, hc, hm, _, hx⟩
  · simp at hcs
    obtain ⟨rfl, rfl, rfl⟩ := hcs
    exact ⟨[], rfl, by decide, .inl rfl⟩
  · simp at hcs
    obtain ⟨rfl, rfl, rfl⟩ := hcs
    have hnm : n ≤ m := by rw [hm]; split <;> omega
    haveI : Inhabited Ask := ⟨⟨0, 0, 0, 0, 0, 0⟩⟩
    obtain ⟨A, hA⟩ := choose_lt (α := Ask) (p := fun i v => ∀ j u, v.cells[j]? = some u → w.cell? (a.add (i * 6 + j)) = some u) (n := n) (fun i hi => by
      obtain ⟨cs', h1, h2⟩ := hx i (by omega)
      obtain ⟨v, rfl⟩ := ask_of h2
      rw [cells28] at h1
      obtain ⟨_, _, h3⟩ := World.cells?_some h1
      refine ⟨v, fun j u hu => ?_⟩
      have hj : j < 6 := by have := (List.getElem?_eq_some_iff.1 hu).1; simpa [Ask.cells] using this
      have := h3 j hj
      rw [hu] at this
      rw [← this]
      rw [add_two])
    refine ⟨(List.range n).map A, by simp, by omega, ?_⟩
    by_cases h0 : n = 0
    · exact .inl h0
    · right
      obtain ⟨b, off, spot⟩ := a
      have hs : spot = none := by
        have h4 := hA 0 (by omega) 0 _ rfl
        simpa [Addr.add] using World.cell?_spot h4
      subst hs
      refine ⟨b, off, rfl, fun i a hi j u hu => ?_⟩
      obtain ⟨hi1, hi2⟩ := List.getElem?_eq_some_iff.1 hi
      simp at hi1 hi2
      subst hi2
      rw [← add_none]
      exact hA i hi1 j u hu

theorem ask_param {v : Value} {fuel : Nat} {x : DataW H × List MemPlace} (hv : ∃ cs, v = .agg cs ∧ cs.size = Try.prog.cellsOf 28) (h : DataW.trod enc Try.prog w base spare held fuel 28 v.cells.toList = some x) : ∃ a : Ask, v = a.val := by
  obtain ⟨cs, rfl, _⟩ := hv
  obtain ⟨a, ha⟩ := ask_of h
  have h1 : cs.toList = a.cells := by simpa [Value.cells] using ha
  refine ⟨a, ?_⟩
  unfold Ask.val Ask.arr
  congr 1
  exact Array.toList_inj.1 (by simpa [Ask.cells] using h1)

/-- an act -/
structure Act where
  what : Int
  num : Int
  ask : Ask
def Act.cells (a : Act) : List Value := .int .u8 a.what :: .int .i64 a.num :: a.ask.cells
theorem cells30 : Try.prog.cellsOf 30 = 8 := by kernel_rfl
theorem cells5 : Try.prog.cellsOf 5 = 1 := by kernel_rfl

theorem act_of {fuel : Nat} {cs : List Value} {x : DataW H × List MemPlace} (h : DataW.trod enc Try.prog w base spare held fuel 30 cs = some x) : ∃ a : Act, cs = a.cells ∧ 0 ≤ a.what ∧ a.what < 256 := by
  obtain ⟨xs, n, _, rfl, hl, hlen, hf⟩ := DataW.trod_struct Try.underlying30 h
  rw [cells30] at hl
  match cs, hl with
  | [c0, c1, c2, c3, c4, c5, c6, c7], _ =>
    match xs, hlen with
    | [y0, y1, y2], _ =>
      have g0 : DataW.trod enc Try.prog w base spare held n 5 (([c0, c1, c2, c3, c4, c5, c6, c7].drop 0).take (Try.prog.cellsOf 5)) = some y0 := hf 0 _ rfl
      have g1 : DataW.trod enc Try.prog w base spare held n 3 (([c0, c1, c2, c3, c4, c5, c6, c7].drop 1).take (Try.prog.cellsOf 3)) = some y1 := hf 1 _ rfl
      have g2 : DataW.trod enc Try.prog w base spare held n 28 (([c0, c1, c2, c3, c4, c5, c6, c7].drop 2).take (Try.prog.cellsOf 28)) = some y2 := hf 2 _ rfl
      rw [cells5] at g0
      rw [cells3] at g1
      rw [cells28] at g2
      obtain ⟨n0, e0, _, hw⟩ := DataW.trod_int Try.underlying5 g0
      obtain ⟨n1, e1, _⟩ := DataW.trod_int Try.underlying3 g1
      obtain ⟨a, e2⟩ := ask_of g2
      have f0 : c0 = _ := (List.cons.inj e0).1
      have f1 : c1 = _ := (List.cons.inj e1).1
      have f2 : [c2, c3, c4, c5, c6, c7] = a.cells := e2
      subst f0 f1
      refine ⟨⟨n0, n1, a⟩, ?_, ?_⟩
      · show Value.int .u8 n0 :: Value.int .i64 n1 :: [c2, c3, c4, c5, c6, c7] = _
        rw [f2]; rfl
      · have h2 : (Lit.int .u8 n0).wf = true := hw
        have e1 : IntKind.u8.min = 0 := rfl
        have e2 : IntKind.u8.max = 255 := rfl
        have h3 : 0 ≤ n0 ∧ n0 ≤ 255 := by simpa [Lit.wf, e1, e2] using h2
        exact ⟨h3.1, by show n0 < 256; omega⟩

/-- a slice of acts that came in -/
def InActs (w : World) (ao : Option Addr) (n : Nat) (l : List Act) : Prop :=
  l.length = n ∧ n ≤ maxLen ∧ (n = 0 ∨ ∃ b off, ao = some ⟨b, off, none⟩ ∧ ∀ i a, l[i]? = some a → (0 ≤ a.what ∧ a.what < 256) ∧ ∀ j u, a.cells[j]? = some u → w.cell? ⟨b, off + (i * 8 + j), none⟩ = some u)

theorem acts_of {fuel : Nat} {ao : Option Addr} {n cap : Nat} {x : DataW H × List MemPlace} (h : DataW.trod enc Try.prog w base spare held fuel 22 [.slice ao n cap] = some x) : ∃ l, InActs w ao n l := by
  rcases open_slice Try.underlying22 h with ⟨hcs, _⟩ | ⟨a, len, cap', m, f, D, Pl, hcs, _, hl, hc, hm, _, hx⟩
  · simp at hcs
    obtain ⟨rfl, rfl, rfl⟩ := hcs
    exact ⟨[], rfl, by decide, .inl rfl⟩
  · simp at hcs
    obtain ⟨rfl, rfl, rfl⟩ := hcs
    have hnm : n ≤ m := by rw [hm]; split <;> omega
    haveI : Inhabited Act := ⟨⟨0, 0, ⟨0, 0, 0, 0, 0, 0⟩⟩⟩
    obtain ⟨A, hA⟩ := choose_lt (α := Act) (p := fun i v => (0 ≤ v.what ∧ v.what < 256) ∧ ∀ j u, v.cells[j]? = some u → w.cell? (a.add (i * 8 + j)) = some u) (n := n) (fun i hi => by
      obtain ⟨cs', h1, h2⟩ := hx i (by omega)
      obtain ⟨v, rfl, hv⟩ := act_of h2
      rw [cells30] at h1
      obtain ⟨_, _, h3⟩ := World.cells?_some h1
      refine ⟨v, hv, fun j u hu => ?_⟩
      have hj : j < 8 := by have := (List.getElem?_eq_some_iff.1 hu).1; simpa [Act.cells, Ask.cells] using this
      have := h3 j hj
      rw [hu] at this
      rw [← this]
      rw [add_two])
    refine ⟨(List.range n).map A, by simp, by omega, ?_⟩
    by_cases h0 : n = 0
    · exact .inl h0
    · right
      obtain ⟨b, off, spot⟩ := a
      have hs : spot = none := by
        have h4 := (hA 0 (by omega)).2 0 _ rfl
        simpa [Addr.add] using World.cell?_spot h4
      subst hs
      refine ⟨b, off, rfl, fun i a hi => ?_⟩
      obtain ⟨hi1, hi2⟩ := List.getElem?_eq_some_iff.1 hi
      simp at hi1 hi2
      subst hi2
      refine ⟨(hA i hi1).1, fun j u hu => ?_⟩
      rw [← add_none]
      exact (hA i hi1).2 j u hu
end
end Go.Proofs.Ytjagoljaocbdcaa
