/- A part of the proof: lemmas. -/
import Derived.Test.YtdoekadmocabdaaAM17
import Derived.WalkKit
import Derived.ProofKit
import Derived.OpenShut
import Derived.ShutString
import Derived.ChangeOld
import Derived.Below
import Derived.SizedLaws
import Derived.Lib.SmallJoins
set_option linter.unusedVariables false
set_option linter.unusedSimpArgs false
namespace Go.AM
open Go Go.ChangeShapes Go.WideShapes Go.ChangeAt Go.RowKit

/-- A slice of whole numbers that came in. -/
def Came (k : IntKind) (W : World) (v : Value) (l : List Int) : Prop :=
  (∀ n ∈ l, (Lit.int k n).wf = true) ∧ l.length ≤ maxLen ∧ ∃ A c, v = .slice A l.length c ∧ l.length ≤ c ∧ (0 < l.length → ∃ b o, A = some ⟨b, o, none⟩ ∧ b < W.heap.size ∧ ∀ i, i < l.length → W.cell? ⟨b, o + i, none⟩ = some (.int k (l.getD i 0)))

theorem cell_lt {W : World} {b o : Nat} {v : Value} (h : W.cell? ⟨b, o, none⟩ = some v) : b < W.heap.size := by
  refine Nat.lt_of_not_le fun hle => ?_
  unfold World.cell? at h
  rw [Array.getElem?_eq_none hle] at h
  cases h

theorem came_of {H : Type} {enc : TypeId × Value → H} {P : Program} {W : World} {t e : TypeId} {k : IntKind} {fuel : Nat} {v : Value} {x : DataW H × List MemPlace} (ht : P.underlying t = some (.slice e)) (he : P.underlying e = some (.int k)) (hc : P.cellsOf e = 1)
    (h : DataW.trod enc P W 0 (fun _ => true) true fuel t [v] = some x) : ∃ l, Came k W v l := by
  rcases open_ints ht he hc h with ⟨hcs, _⟩ | ⟨a, len, cap, zs, hcs, _, hl, hm, hz, _, hcell, hwz⟩
  · simp only [List.cons.injEq, and_true] at hcs
    subst hcs
    exact ⟨[], fun n hn => (by cases hn), Nat.zero_le _, none, 0, rfl, Nat.le_refl _, fun h => (by simp at h)⟩
  · simp only [List.cons.injEq, and_true] at hcs
    subst hcs
    simp only [if_true] at hz
    have hlen : (zs.take len).length = len := by simp; omega
    refine ⟨zs.take len, fun n hn => hwz n (List.mem_of_mem_take hn), by omega, some a, cap, by rw [hlen], by omega, fun h0 => ?_⟩
    obtain ⟨b, o, rfl, hb⟩ := ints_at hcell (by omega)
    refine ⟨b, o, rfl, cell_lt (hb 0 (by omega)), fun i hi => ?_⟩
    rw [hlen] at hi
    rw [hb i (by omega)]
    congr 2
    rw [List.getD_eq_getElem?_getD, List.getD_eq_getElem?_getD, List.getElem?_take_of_lt hi]

theorem came_rel {k : IntKind} {W : World} {v : Value} {l : List Int} (h : Came k W v l) : CRel [] W (fun b => b < W.heap.size) (.psl 1 l.length (fun i _ => .int k (l.getD i 0))) v := by
  obtain ⟨_, hm, A, c, rfl, hc, hb⟩ := h
  unfold CRel
  refine ⟨A, c, rfl, hc, by unfold maxLen at hm; omega, fun h0 => ?_⟩
  obtain ⟨b, o, rfl, h1, h2⟩ := hb h0
  refine ⟨b, o, rfl, h1, fun i j hi hj => ⟨_, ?_, by unfold CRel; rfl⟩⟩
  obtain rfl : j = 0 := by omega
  simpa using h2 i hi

/-- A law's call, told by the kit. -/
theorem law_calls {P : Program} {f : FuncId} {args : List AV} {W : World} {vs : List Value} (h : ASpec P f args [] (fun r h => r = .bool true ∧ h = [])) (ha : CRelL [] W (fun b => b < W.heap.size) args vs) :
    Calls P f vs.toArray W (fun e w' => e = .returned (.bool true) ∧ Below W.heap.size W w') := by
  have hs : Sat ⟨W, fun b => ∃ n, Live [] [] n b, fun b => b < W.heap.size, []⟩ [] W (fun b => b < W.heap.size) [] := by
    refine ⟨rfl, List.prefix_rfl, fun n o h => (by simp at h), fun m n b ⟨c, o, h1, _⟩ => (by simp at h1), fun n b ⟨c, o, h1, _⟩ => (by simp at h1), fun b h => h, fun b h => h, fun b _ => rfl, fun b h => .inl h, fun b _ _ => rfl, rfl, rfl, rfl, Nat.le_refl _⟩
  refine (h [] W _ vs hs ha).mono fun e w' ⟨r, h', v, R', I', ⟨hr, hh⟩, he, hs', hv⟩ => ?_
  subst hr
  unfold CRel at hv
  subst hv
  refine ⟨he, hs'.os, hs'.tape, hs'.output, hs'.size, fun k hk => hs'.fr k hk ?_⟩
  rintro ⟨n, c, o, h1, _⟩
  simp at h1
end Go.AM
