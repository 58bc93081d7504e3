/- What bytes, and a slice of acts, that came in read as: cells. -/
import Derived.Test.YtlnhdfdalfoocaaH1
import Derived.Deep.Slices
import Derived.ProofKit
import Derived.OpenShut
import Derived.ChangeOld
namespace Go.Proofs.Ytlnhdfdalfoocaa
open Go.ChangeShapes Go.WideShapes Go.ChangeAt Go.RowKit Go.Deep

theorem own : ownKnob Try.prog.godebug = none := by kernel_rfl
theorem laidOut : laidOutB Try.prog = true := by kernel_rfl
theorem cells5 : Try.prog.cellsOf 5 = 1 := by kernel_rfl
theorem cells9 : Try.prog.cellsOf 9 = 1 := by kernel_rfl
theorem cells27 : Try.prog.cellsOf 27 = 1 := by kernel_rfl
theorem cells29 : Try.prog.cellsOf 29 = 3 := by kernel_rfl

/-- bytes that came in -/
def InB (w : World) (ao : Option Addr) (n : Nat) (l : List UInt8) : Prop :=
  l.length = n ∧ n ≤ maxLen ∧ (∀ c, Src w 1 (.slice ao n c) n (bcells l)) ∧ ∀ a, ao = some a → 0 < n → a.block < w.heap.size
structure Act where
  what : Int
  key : ByteArray
  ao : Option Addr
  cap : Nat
  data : List UInt8
def Act.cells (a : Act) : List Value := [.int .u8 a.what, .string a.key, .slice a.ao a.data.length a.cap]
def Act.ok (w : World) (a : Act) : Prop := (0 ≤ a.what ∧ a.what < 256) ∧ InB w a.ao a.data.length a.data

section
variable {H : Type} {enc : TypeId × Value → H} {w : World} {base : Nat} {spare : Nat → Bool} {held : Bool}

theorem add_two (a : Addr) (m n : Nat) : (a.add m).add n = a.add (m + n) := by
  unfold Addr.add
  by_cases h1 : m = 0
  · simp [h1]
  · by_cases h2 : n = 0
    · simp [h2]
    · simp [h1, h2, Nat.add_assoc]
theorem add_none (b o k : Nat) : (⟨b, o, none⟩ : Addr).add k = ⟨b, o + k, none⟩ := by
  unfold Addr.add; split <;> simp_all

theorem bytes_of {fuel : Nat} {ao : Option Addr} {n cap : Nat} {x : DataW H × List MemPlace} (h : DataW.trod enc Try.prog w base spare held fuel 27 [.slice ao n cap] = some x) : ∃ l, InB w ao n l := by
  rcases open_slice Try.underlying27 h with ⟨hcs, _⟩ | ⟨a, len, cap', m, f, D, Pl, hcs, _, hl, hc, hm, _, hx⟩
  · simp at hcs
    obtain ⟨rfl, rfl, rfl⟩ := hcs
    exact ⟨[], rfl, by decide, fun c => ⟨rfl, none, c, rfl, fun _ => rfl, fun a ha => by cases ha⟩, fun a ha => by cases ha⟩
  · simp at hcs
    obtain ⟨rfl, rfl, rfl⟩ := hcs
    have hnm : n ≤ m := by rw [hm]; split <;> omega
    obtain ⟨A, hA⟩ := choose_lt (α := UInt8) (p := fun i v => w.cell? (a.add i) = some (.int .u8 (v.toNat : Int))) (n := n) (fun i hi => by
      obtain ⟨cs', h1, h2⟩ := hx i (by omega)
      obtain ⟨z, rfl, _, hw⟩ := DataW.trod_int Try.underlying5 h2
      rw [cells5] at h1
      obtain ⟨_, _, h3⟩ := World.cells?_some h1
      have h4 := h3 0 (by omega)
      have e1 : IntKind.u8.min = 0 := rfl
      have e2 : IntKind.u8.max = 255 := rfl
      have h5 : 0 ≤ z ∧ z ≤ 255 := by simpa [Lit.wf, e1, e2] using hw
      refine ⟨UInt8.ofNat z.toNat, ?_⟩
      have h6 : ((UInt8.ofNat z.toNat).toNat : Int) = z := by
        rw [UInt8.toNat_ofNat']
        omega
      rw [h6]
      rw [add_two] at h4
      simpa using h4)
    have hlen : ((List.range n).map A).length = n := by simp
    have hsrc : ∀ j u, (bcells ((List.range n).map A))[j]? = some u → w.cell? (a.add j) = some u := by
      intro j u hu
      obtain ⟨hj1, hj2⟩ := List.getElem?_eq_some_iff.1 hu
      simp [bcells] at hj1 hj2
      rw [← hj2]
      exact hA j hj1
    refine ⟨(List.range n).map A, hlen, by omega, fun c => ⟨by rw [bcells_length, hlen], some a, c, rfl, (fun h => by cases h), fun a' ha' => by cases ha'; exact hsrc⟩, fun a' ha' h0 => ?_⟩
    cases ha'
    have := block_lt_of_cell (hA 0 h0)
    simpa [Addr.add] using this

theorem act_of {fuel : Nat} {cs : List Value} {x : DataW H × List MemPlace} (h : DataW.trod enc Try.prog w base spare held fuel 29 cs = some x) : ∃ a : Act, cs = a.cells ∧ a.ok w := by
  obtain ⟨xs, n, _, rfl, hl, hlen, hf⟩ := DataW.trod_struct Try.underlying29 h
  rw [cells29] at hl
  match cs, hl with
  | [c0, c1, c2], _ =>
    match xs, hlen with
    | [y0, y1, y2], _ =>
      have g0 : DataW.trod enc Try.prog w base spare held n 5 (([c0, c1, c2].drop 0).take (Try.prog.cellsOf 5)) = some y0 := hf 0 _ rfl
      have g1 : DataW.trod enc Try.prog w base spare held n 9 (([c0, c1, c2].drop 1).take (Try.prog.cellsOf 9)) = some y1 := hf 1 _ rfl
      have g2 : DataW.trod enc Try.prog w base spare held n 27 (([c0, c1, c2].drop 2).take (Try.prog.cellsOf 27)) = some y2 := hf 2 _ rfl
      rw [cells5] at g0
      rw [cells9] at g1
      rw [cells27] at g2
      obtain ⟨n0, e0, _, hw⟩ := DataW.trod_int Try.underlying5 g0
      obtain ⟨s1, e1, _, _⟩ := DataW.trod_string Try.underlying9 g1
      have f0 : c0 = _ := (List.cons.inj e0).1
      have f1 : c1 = _ := (List.cons.inj e1).1
      have g2' : DataW.trod enc Try.prog w base spare held n 27 [c2] = some y2 := g2
      obtain ⟨ao, len, cap, f2⟩ : ∃ ao len cap, c2 = .slice ao len cap := by
        rcases open_slice Try.underlying27 g2' with ⟨hcs, _⟩ | ⟨a, len, cap', m, f, D, Pl, hcs, _⟩
        · exact ⟨_, _, _, (List.cons.inj hcs).1⟩
        · exact ⟨_, _, _, (List.cons.inj hcs).1⟩
      subst f0 f1 f2
      obtain ⟨l, hb⟩ := bytes_of g2'
      have hll := hb.1
      subst hll
      refine ⟨⟨n0, s1, ao, cap, l⟩, rfl, ?_, hb⟩
      have e1 : IntKind.u8.min = 0 := rfl
      have e2 : IntKind.u8.max = 255 := rfl
      have h3 : 0 ≤ n0 ∧ n0 ≤ 255 := by simpa [Lit.wf, e1, e2] using hw
      exact ⟨h3.1, by show n0 < 256; omega⟩

/-- a slice of acts that came in -/
def InActs (w : World) (ao : Option Addr) (n : Nat) (l : List Act) : Prop :=
  l.length = n ∧ n ≤ maxLen ∧ (n = 0 ∨ ∃ b off, ao = some ⟨b, off, none⟩ ∧ ∀ i a, l[i]? = some a → a.ok w ∧ ∀ j u, a.cells[j]? = some u → w.cell? ⟨b, off + (i * 3 + j), none⟩ = some u)

theorem acts_of {fuel : Nat} {ao : Option Addr} {n cap : Nat} {x : DataW H × List MemPlace} (h : DataW.trod enc Try.prog w base spare held fuel 22 [.slice ao n cap] = some x) : ∃ l, InActs w ao n l := by
  rcases open_slice Try.underlying22 h with ⟨hcs, _⟩ | ⟨a, len, cap', m, f, D, Pl, hcs, _, hl, hc, hm, _, hx⟩
  · simp at hcs
    obtain ⟨rfl, rfl, rfl⟩ := hcs
    exact ⟨[], rfl, by decide, .inl rfl⟩
  · simp at hcs
    obtain ⟨rfl, rfl, rfl⟩ := hcs
    have hnm : n ≤ m := by rw [hm]; split <;> omega
    haveI : Inhabited Act := ⟨⟨0, ByteArray.empty, none, 0, []⟩⟩
    obtain ⟨A, hA⟩ := choose_lt (α := Act) (p := fun i v => v.ok w ∧ ∀ j u, v.cells[j]? = some u → w.cell? (a.add (i * 3 + j)) = some u) (n := n) (fun i hi => by
      obtain ⟨cs', h1, h2⟩ := hx i (by omega)
      obtain ⟨v, rfl, hv⟩ := act_of h2
      rw [cells29] at h1
      obtain ⟨_, _, h3⟩ := World.cells?_some h1
      refine ⟨v, hv, fun j u hu => ?_⟩
      have hj : j < 3 := by have := (List.getElem?_eq_some_iff.1 hu).1; simpa [Act.cells] using this
      have := h3 j hj
      rw [hu] at this
      rw [← this]
      rw [add_two])
    refine ⟨(List.range n).map A, by simp, by omega, ?_⟩
    by_cases h0 : n = 0
    · exact .inl h0
    · right
      obtain ⟨b, off, spot⟩ := a
      have hs : spot = none := by
        have h4 := (hA 0 (by omega)).2 0 _ rfl
        simpa [Addr.add] using World.cell?_spot h4
      subst hs
      refine ⟨b, off, rfl, fun i a hi => ?_⟩
      obtain ⟨hi1, hi2⟩ := List.getElem?_eq_some_iff.1 hi
      simp at hi1 hi2
      subst hi2
      refine ⟨(hA i hi1).1, fun j u hu => ?_⟩
      rw [← add_none]
      exact (hA i hi1).2 j u hu
end
end Go.Proofs.Ytlnhdfdalfoocaa
