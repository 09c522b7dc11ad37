/- A part of the proof: lemmas. -/
import Derived.Test.YtdoekadmocabdaaIC1
set_option linter.unusedVariables false
set_option linter.unusedSimpArgs false
namespace Go.AM.S
open Go Go.AM

def bf (l : List Int) : Nat → Nat → AV := fun i _ => .int .u8 (l.getD i 0)
@[simp] theorem ren_bf (σ : Nat → Nat) (l : List Int) (i j : Nat) : ren σ (bf l i j) = bf l i j := by simp [bf]
@[simp] theorem fz_bf (k s n' : Nat) (f : Nat → Nat → AV) (l : List Int) (i j : Nat) : fz k s n' f (bf l i j) = bf l i j := by simp [bf]
@[simp] theorem bf_one (l : List Int) (i j : Nat) : (bf l i j).one = true := rfl
/-- A writer that has written 'l'. -/
def wcell (k : Nat) (l : List Int) (sp : Bool) : AO := .cells 174 [.own k 1 l.length, .bool sp]
def brow (l : List Int) : AO := .row 5 1 l.length (bf l)

theorem sNew : ASpec Go.Proofs.Try.prog 66 [] [] (fun r h => r = .ptr 0 0 ∧ h = [wcell 1 [] false, brow []]) := by
  refine spec66 ?_ (by simp)
  simp [c66]
  exact Ent.addNilO 5 1 (bf []) (by decide) 0 0 (T' := 174) (cs := [AV.nils, AV.bool false]) rfl rfl

/-- The bytes of a number, the greatest first. -/
def be : Nat → Int → List Int
  | 0, _ => []
  | k+1, n => (n.fdiv (2 ^ (8 * k))) % 256 :: be k n

@[simp] theorem be_length : ∀ k n, (be k n).length = k
  | 0, _ => rfl
  | k+1, n => by simp [be, be_length k n]

theorem be_getD : ∀ (k i : Nat) (n : Int), i < k → (be k n).getD i 0 = n.fdiv (2 ^ (8 * (k - 1 - i))) % 256
  | 0, i, n, h => absurd h (by omega)
  | k+1, 0, n, h => by simp [be]
  | k+1, i+1, n, h => by
    have := be_getD k i n (by omega)
    simp only [be, List.getD_cons_succ, this]
    congr 4
    omega

theorem bf_take (l b : List Int) (i p j : Nat) (hi : i < b.length) (hp : p < l.length + (i + 1)) (h : ¬ p < l.length + i) : bf (l ++ b.take (i + 1)) p j = .int .u8 (b.getD i 0) := by
  obtain rfl : p = l.length + i := by omega
  simp [bf, List.getElem?_append_right, hi]
theorem bf_take' (l b : List Int) (i p j : Nat) (h : p < l.length + i) (hi : i < b.length) : bf (l ++ b.take (i + 1)) p j = bf (l ++ b.take i) p j := by
  unfold bf
  congr 1
  by_cases hp : p < l.length
  · simp [List.getElem?_append_left, hp]
  · simp only [List.getD_eq_getElem?_getD]
    rw [List.getElem?_append_right (by omega), List.getElem?_append_right (by omega), List.getElem?_take_of_lt (by omega), List.getElem?_take_of_lt (by omega)]

theorem sPut (l : List Int) (sp : Bool) (n : Int) (k : Nat) (hk : k ≤ 8) (hl : l.length < 1000000) : ASpec Go.Proofs.Try.prog 87 [.ptr 0 0, .int .u64 n, .int .i64 k] [wcell 1 l sp, brow l] (fun r h => r = .ptr 0 0 ∧ h = [wcell 2 (l ++ be k n) sp, .dead, brow (l ++ be k n)]) := by
  refine spec87 ?_ (by simp)
  simp [c87]
  refine AWP.loop (D := Nat) (fun i => i ≤ k) (fun i => ⟨mkT 33 [(0, AV.ptr 0 0), (1, .int .u64 n), (2, .int .i64 k), (10, .int .i64 k), (11, .int .i64 i)], [wcell 2 (l ++ (be k n).take i) sp, .dead, brow (l ++ (be k n).take i)]⟩) (fun i => k - i) 0 (by omega) ?_ ?_
  · refine Ent.map [0, 1, 1] ?_ ?_ ?_ ?_ ?_
    · exact idn rfl
    · simp [wcell, brow]
    · simp [wcell, brow, liveN]
    · simp [wcell, brow, entO]
    · simp [wcell, brow]; exact AVles_mkT (by simp)
  · intro i hi
    apply aexec_sound hmix; apply AX_of
    simp [wcell, brow]
    refine ⟨fun h => ?_, fun h => ?_⟩
    · simp (disch := omega) only [IntWalk.i64_in, IntKind.wrap_u8]
      have e : min (8 * ((k:Int) - 1 - i)).toNat IntKind.u64.bits = 8 * (k - 1 - i) := by
        simp only [IntKind.bits]; omega
      simp only [e, ← be_getD k i n h]
      refine ⟨by omega, by omega, i + 1, by omega, by omega, ?_⟩
      have em : min (i + 1) k = min i k + 1 := by omega
      refine Ent.map [0, 1, 4] ?_ ?_ ?_ ?_ ?_
      · exact idn rfl
      · simp
      · simp
      · simp [em, ← Nat.add_assoc]
        intro p hp
        have ek : min i k = i := by omega
        rw [ek] at hp ⊢
        split
        · rename_i h1
          rw [bf_take' _ _ _ _ _ h1 (by simpa using h)]; simp
        · rename_i h1
          rw [bf_take _ _ _ _ _ (by simpa using h) (by omega) h1]
          obtain rfl : p = l.length + i := by omega
          simp
      · simp; exact AVles_mkT (by simp)
    · obtain rfl : i = k := by omega
      have et : (be i n).take i = be i n := List.take_of_length_le (by simp)
      simp [et]
      exact Ent.refl _ _
end Go.AM.S
