/- A part of the proof: lemmas. -/
import Derived.Test.YtdoekadmocabdaaW1
set_option linter.unusedVariables false
set_option linter.unusedSimpArgs false
namespace Go.AM.S
open Go Go.AM

theorem sU8 (l : List Int) (sp : Bool) (n : Int) (h0 : 0 ≤ n) (h1 : n ≤ 255) (hl : l.length < 1000000) : ASpec Go.Proofs.Try.prog 67 [.ptr 0 0, .int .u8 n] [wcell 1 l sp, brow l] (fun r h => r = .ptr 0 0 ∧ h = [wcell 2 (l ++ be 1 n) sp, .dead, brow (l ++ be 1 n)]) := by
  refine spec67 ?_ (by simp)
  simp [c67]
  simp (disch := omega) only [IntWalk.u64_in]
  refine ACall.det [0, 1] [.ptr 0 0, .int .u64 n, .int .i64 (1 : Nat)] (sPut l sp n 1 (by omega) hl) (by decide) ?_ ?_ trivial ?_
  · simp [wcell, brow]
  · simp
  · simp [wcell, brow]
    exact Ent.refl _ _
theorem sU32 (l : List Int) (sp : Bool) (n : Int) (h0 : 0 ≤ n) (h1 : n ≤ 4294967295) (hl : l.length < 1000000) : ASpec Go.Proofs.Try.prog 69 [.ptr 0 0, .int .u32 n] [wcell 1 l sp, brow l] (fun r h => r = .ptr 0 0 ∧ h = [wcell 2 (l ++ be 4 n) sp, .dead, brow (l ++ be 4 n)]) := by
  refine spec69 ?_ (by simp)
  simp [c69]
  simp (disch := omega) only [IntWalk.u64_in]
  refine ACall.det [0, 1] [.ptr 0 0, .int .u64 n, .int .i64 (4 : Nat)] (sPut l sp n 4 (by omega) hl) (by decide) ?_ ?_ trivial ?_
  · simp [wcell, brow]
  · simp
  · simp [wcell, brow]
    exact Ent.refl _ _
theorem sU64 (l : List Int) (sp : Bool) (n : Int) (hl : l.length < 1000000) : ASpec Go.Proofs.Try.prog 68 [.ptr 0 0, .int .u64 n] [wcell 1 l sp, brow l] (fun r h => r = .ptr 0 0 ∧ h = [wcell 2 (l ++ be 8 n) sp, .dead, brow (l ++ be 8 n)]) := by
  refine spec68 ?_ (by simp)
  simp [c68]
  refine ACall.det [0, 1] [.ptr 0 0, .int .u64 n, .int .i64 (8 : Nat)] (sPut l sp n 8 (by omega) hl) (by decide) ?_ ?_ trivial ?_
  · simp [wcell, brow]
  · simp
  · simp [wcell, brow]
    exact Ent.refl _ _

/-- A text that is only read. -/
def bs (l : List Int) : AV := .psl 1 l.length (bf l)
@[simp] theorem ren_bs (σ : Nat → Nat) (l : List Int) : ren σ (bs l) = bs l := by simp [bs]

@[simp] theorem bs_one (l : List Int) : (bs l).one = true := rfl
@[simp] theorem bs_cs (l : List Int) : (bs l).cs = [bs l] := rfl
@[simp] theorem bs_fits (l : List Int) : (bs l).fits = true := rfl
@[simp] theorem bs_bare (l : List Int) : (bs l).bare = bs l := rfl
@[simp] theorem bs_okc (l : List Int) : (bs l).okc = True := rfl

theorem bf_append (l s : List Int) (i j : Nat) : (if i < l.length then bf l i else bf s (i - l.length)) j = bf (l ++ s) i j := by
  unfold bf
  split
  · rename_i h; simp [List.getElem?_append_left, h]
  · rename_i h; simp [List.getElem?_append_right (Nat.le_of_not_lt h)]

theorem sText (l : List Int) (sp : Bool) (s : List Int) (hs : s.length ≤ 255) (hl : l.length < 900000) : ASpec Go.Proofs.Try.prog 70 [.ptr 0 0, bs s] [wcell 1 l sp, brow l] (fun r h => r = .ptr 0 0 ∧ h = [wcell 3 (l ++ (s.length : Int) :: s) sp, .dead, .dead, brow (l ++ (s.length : Int) :: s)]) := by
  refine spec70 ?_ (by simp)
  simp [c70, wcell, brow, bs]
  refine ⟨fun h => by omega, fun _ => ?_⟩
  simp (disch := omega) only [IntWalk.u8_in]
  refine AC.det [0, 1] [.ptr 0 0, .int .u8 s.length] (sU8 l sp s.length (by omega) (by omega) (by omega)) (by decide) (by simp [wcell, brow]) (by simp) trivial ?_
  simp [wcell, brow]
  refine ⟨by omega, ?_⟩
  have e : l ++ (s.length : Int) :: s = (l ++ [(s.length : Int)]) ++ s := by simp
  have e1 : be 1 (s.length : Int) = [(s.length : Int)] := by simp [be]; omega
  rw [e, e1]
  refine Ent.map [0, 1, 2, 3] (idn rfl) (by simp) (by simp) ?_ (by simp)
  have en : l.length + 1 + s.length = l.length + (s.length + 1) := by omega
  simp [en]
  intro i hi
  refine AVle.of_eq ?_
  have := bf_append (l ++ [(s.length : Int)]) s i 0
  simp at this
  exact this

theorem sWDone (l : List Int) (hl : l.length < 1000000) : ASpec Go.Proofs.Try.prog 72 [.ptr 0 0] [wcell 1 l false, brow l] (fun r h => r = .tup [bs l, .int .i64 0] ∧ h = [.dead, .dead]) := by
  refine spec72 ?_ (by simp)
  simp [c72, wcell, brow, bs]
  refine ⟨by omega, ?_⟩
  refine (Ent.frz 3 (T := 5) (s := 1) (n' := l.length) (f := bf l) rfl).trans ?_
  exact Ent.map [0, 1] (idn rfl) (by simp) (by simp) (by simp) (by simp)
end Go.AM.S
