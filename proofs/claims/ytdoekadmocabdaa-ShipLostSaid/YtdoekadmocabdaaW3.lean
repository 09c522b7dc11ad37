/- A part of the proof: lemmas. -/
import Derived.Test.YtdoekadmocabdaaW2
set_option linter.unusedVariables false
set_option linter.unusedSimpArgs false
namespace Go.AM.S
open Go Go.AM

/-- A reader: what is left. -/
def rcell (l : List Int) : AO := .cells 187 [bs l, .bool false]

theorem bs_eq {n : Nat} {f : Nat → Nat → AV} {l : List Int} (hn : n = l.length) (h : ∀ i, i < l.length → f i 0 = bf l i 0) : AVle (.psl 1 n f) (bs l) := by
  subst hn
  refine AVle.psl rfl fun i j hi hj => ?_
  obtain rfl : j = 0 := by omega
  exact AVle.of_eq (h i hi)

theorem sNewR (l : List Int) (hl : l.length < 1000000) : ASpec Go.Proofs.Try.prog 88 [bs l] [] (fun r h => r = .ptr 0 0 ∧ h = [rcell l]) := by
  refine spec88 ?_ (by simp)
  simp [c88, bs]
  refine ⟨by omega, ?_⟩
  refine (Ent.frz 1 (T := 5) (s := 1) (n' := l.length) (f := bf l) rfl).trans ?_
  exact Ent.map [2] (idn rfl) (by simp) (by simp [rcell]) (by simp [rcell, bs]) (by simp)

set_option maxRecDepth 20000 in
theorem sTake (l : List Int) (n : Nat) (hn : n ≤ l.length) (hl : l.length < 1000000) : ASpec Go.Proofs.Try.prog 101 [.ptr 0 0, .int .i64 n] [rcell l] (fun r h => r = bs (l.take n) ∧ h = [rcell (l.drop n)]) := by
  refine spec101 ?_ (by simp)
  have h1 : ¬ l.length < n := by omega
  simp [c101, rcell, bs, h1, hn]
  refine Ent.map [0] (idn rfl) (by simp) (by simp) ?_ ?_
  · simp
    exact AVle.psl rfl fun i j hi hj => AVle.of_eq (by simp [bf])
  · have e : min n l.length = n := by omega
    simp [e]
    have := bs_eq (n := n) (f := bf l) (l := l.take n) (by simp; omega) fun i hi => by
      simp only [List.length_take] at hi
      have : i < n := by omega
      simp [bf, this]
    simpa [bs, e] using this

theorem be_or (n c : Int) (h0 : 0 ≤ n) (h1 : n < 72057594037927936) (h2 : 0 ≤ c) (h3 : c < 256) : IntKind.u64.wrap ((BitVec.ofInt IntKind.u64.bits (n * 256) ||| BitVec.ofInt IntKind.u64.bits c).toNat) = n * 256 + c := by
  obtain ⟨a, rfl⟩ := Int.eq_ofNat_of_zero_le h0
  obtain ⟨b, rfl⟩ := Int.eq_ofNat_of_zero_le h2
  have e1 : ((a : Int) * 256) = ((a * 256 : Nat) : Int) := by omega
  rw [e1]
  show IntKind.u64.wrap ((BitVec.ofInt 64 ((a * 256 : Nat) : Int) ||| BitVec.ofInt 64 (b : Int)).toNat : Int) = _
  simp only [BitVec.toNat_or, BitVec.toNat_ofInt]
  have e2 : (((a * 256 : Nat) : Int) % ((2 ^ 64 : Nat) : Int)).toNat = a * 256 := by omega
  have e3 : (((b : Nat) : Int) % ((2 ^ 64 : Nat) : Int)).toNat = b := by omega
  have e2' : (((a * 256 : Nat) : Int) % (2 ^ 64)).toNat = a * 256 := by omega
  have e3' : (((b : Nat) : Int) % (2 ^ 64)).toNat = b := by omega
  have hor : (a * 256 ||| b) = a * 256 + b := by
    have := Nat.two_pow_add_eq_or_of_lt (i := 8) (b := b) (by omega) a
    have e : (2 : Nat) ^ 8 * a = a * 256 := by omega
    rw [e] at this
    exact this.symm
  simp only [e2, e3, e2', e3', hor]
  rw [IntWalk.u64_in _ (by omega)]
  omega

theorem be_or' (n c : Int) (h0 : 0 ≤ n) (h1 : n < 72057594037927936) (h2 : 0 ≤ c) (h3 : c < 256) : IntKind.u64.wrap (((n * 256 % 2 ^ IntKind.u64.bits).toNat ||| (c % 2 ^ IntKind.u64.bits).toNat : Nat) : Int) = n * 256 + c := by
  have := be_or n c h0 h1 h2 h3
  rwa [BitVec.toNat_or, BitVec.toNat_ofInt, BitVec.toNat_ofInt] at this

/-- The number of bytes. -/
def num (l : List Int) : Int := l.foldl (fun n c => n * 256 + c) 0

theorem num_lt (l : List Int) (h : ∀ x, x ∈ l → 0 ≤ x ∧ x < 256) : ∀ n : Int, 0 ≤ n → 0 ≤ l.foldl (fun n c => n * 256 + c) n ∧ l.foldl (fun n c => n * 256 + c) n < (n + 1) * 256 ^ l.length := by
  induction l with
  | nil => intro n hn; simp; omega
  | cons x l ih =>
    intro n hn
    have hx := h x (by simp)
    have := ih (fun y hy => h y (by simp [hy])) (n * 256 + x) (by omega)
    refine ⟨this.1, Int.lt_of_lt_of_le this.2 ?_⟩
    simp only [List.length_cons, Int.pow_succ]
    have h2 : (0 : Int) ≤ 256 ^ l.length := Int.pow_nonneg (by omega)
    have : (n * 256 + x + 1) ≤ (n + 1) * 256 := by omega
    calc (n * 256 + x + 1) * 256 ^ l.length ≤ ((n + 1) * 256) * 256 ^ l.length := Int.mul_le_mul_of_nonneg_right this h2
      _ = (n + 1) * (256 ^ l.length * 256) := by rw [Int.mul_assoc, Int.mul_comm 256]

theorem num_take (l : List Int) (i : Nat) (hi : i < l.length) : num (l.take (i + 1)) = num (l.take i) * 256 + l.getD i 0 := by
  unfold num
  rw [List.take_add_one, List.foldl_append]
  simp [hi]

theorem be_nat (k m : Nat) : ((m : Int).fdiv (2 ^ (8 * k))) % 256 = ((m / 256 ^ k % 256 : Nat) : Int) := by
  have e : (2 : Int) ^ (8 * k) = ((256 ^ k : Nat) : Int) := by
    rw [Int.pow_mul, Int.natCast_pow]; rfl
  rw [e, Int.fdiv_eq_ediv_of_nonneg _ (Int.natCast_nonneg _)]
  omega

theorem num_be (k m : Nat) : ∀ (a : Int), (be k (m : Int)).foldl (fun n c => n * 256 + c) a = a * 256 ^ k + ((m % 256 ^ k : Nat) : Int) := by
  induction k with
  | zero => intro a; simp only [be, List.foldl_nil, Nat.pow_zero, Nat.mod_one, Int.pow_zero]; omega
  | succ k ih =>
    intro a
    simp only [be, List.foldl_cons, be_nat, ih]
    have h : m % 256 ^ (k + 1) = m % 256 ^ k + 256 ^ k * (m / 256 ^ k % 256) := by rw [Nat.pow_succ, Nat.mod_mul]
    rw [h]
    generalize m / 256 ^ k % 256 = q
    generalize m % 256 ^ k = r
    rw [Int.pow_succ, Int.natCast_add, Int.natCast_mul, Int.natCast_pow]
    generalize ((256 : Nat) : Int) ^ k = p
    rw [Int.add_mul, Int.mul_assoc, Int.mul_comm 256 p, Int.mul_comm (q : Int) p]
    omega

theorem num_be' (k : Nat) (n : Int) (h0 : 0 ≤ n) (h1 : n < 256 ^ k) : num (be k n) = n := by
  obtain ⟨m, rfl⟩ := Int.eq_ofNat_of_zero_le h0
  have h2 : m < 256 ^ k := by
    have : (m : Int) < ((256 ^ k : Nat) : Int) := by rw [Int.natCast_pow]; exact h1
    exact Int.ofNat_lt.1 this
  unfold num
  rw [num_be, Nat.mod_eq_of_lt h2]
  omega

theorem be_byte (k : Nat) (n : Int) : ∀ (x : Int), x ∈ be k n → 0 ≤ x ∧ x < 256 := by
  induction k with
  | zero => intro x h; cases h
  | succ k ih =>
    intro x h
    rcases List.mem_cons.1 h with rfl | h
    · omega
    · exact ih x h

set_option maxRecDepth 20000 in
theorem sNumber (l rest : List Int) (k : Nat) (hk : l.length = k) (hk8 : k ≤ 8) (hb : ∀ x, x ∈ l → 0 ≤ x ∧ x < 256) (hl : (l ++ rest).length < 1000000) : ASpec Go.Proofs.Try.prog 100 [.ptr 0 0, .int .i64 k] [rcell (l ++ rest)] (fun r h => r = .int .u64 (num l) ∧ h = [rcell rest]) := by
  refine spec100 ?_ (by simp)
  simp [c100, rcell]
  refine AC.det [0] [.ptr 0 0, .int .i64 k] (sTake (l ++ rest) k (by simp; omega) hl) (by decide) (by simp [rcell]) (by simp) trivial ?_
  have e1 : (l ++ rest).take k = l := by rw [← hk]; simp
  have e2 : (l ++ rest).drop k = rest := by rw [← hk]; simp
  rw [e1, e2]
  simp [rcell, bs]
  refine AWP.loop (D := Nat) (fun i => i ≤ k) (fun i => ⟨mkT 23 [(5, .int .u64 (num (l.take i))), (10, .psl 1 l.length fun i j => bf l i j), (11, .int .i64 l.length), (12, .int .i64 i)], [.cells 187 [.psl 1 rest.length fun i j => bf rest i j, .bool false]]⟩) (fun i => k - i) 0 (by omega) ?_ ?_
  · exact Ent.map [0] (idn rfl) (by simp) (by simp) (by simp) (by simp; exact AVles_mkT (by simp [num]))
  · intro i hi
    apply aexec_sound hmix; apply AX_of
    simp [bf]
    refine ⟨fun h => ⟨h, ?_⟩, fun h => ?_⟩
    · have hx := hb _ (List.getElem_mem h)
      have e4 : l[i]?.getD 0 = l[i] := by simp [h]
      have e5 : min 8 IntKind.u64.bits = 8 := rfl
      have hn := num_lt (l.take i) (fun x hx => hb x (List.mem_of_mem_take hx)) 0 (by omega)
      have hn2 : (256 : Int) ^ (l.take i).length ≤ 256 ^ 7 := by
        have : (l.take i).length ≤ 7 := by simp; omega
        have h9 := Int.ofNat_le.2 (Nat.pow_le_pow_right (n := 256) (by omega) this)
        rw [Int.natCast_pow, Int.natCast_pow] at h9
        exact h9
      have hnn : 0 ≤ num (l.take i) := hn.1
      have hnm : num (l.take i) < 72057594037927936 := by
        have := hn.2
        have h3 : num (l.take i) < 256 ^ 7 := by
          unfold num
          omega
        omega
      rw [e4, e5]
      simp (disch := omega) only [IntWalk.u64_in, IntWalk.i64_in]
      have e6 : (2 : Int) ^ 8 = 256 := rfl
      rw [e6, be_or' _ _ hnn hnm hx.1 hx.2]
      refine ⟨i + 1, by omega, by omega, ?_⟩
      rw [num_take l i h]
      simp [h]
      exact Ent.map [0] (idn rfl) (by simp) (by simp) (by simp) (by simp; exact AVles_mkT (by simp [h]))
    · have e4 : l.take i = l := List.take_of_length_le h
      rw [e4]
      exact Ent.refl _ _

theorem sRU8 (n : Int) (rest : List Int) (h0 : 0 ≤ n) (h1 : n < 256) (hl : rest.length < 900000) : ASpec Go.Proofs.Try.prog 89 [.ptr 0 0] [rcell (be 1 n ++ rest)] (fun r h => r = .int .u8 n ∧ h = [rcell rest]) := by
  refine spec89 ?_ (by simp)
  simp [c89]
  refine AC.det [0] [.ptr 0 0, .int .i64 (1 : Nat)] (sNumber (be 1 n) rest 1 (by simp) (by omega) (be_byte 1 n) (by simp; omega)) (by decide) (by simp [rcell]) (by simp) trivial ?_
  rw [num_be' 1 n h0 (by omega)]
  simp [rcell]
  simp (disch := omega) only [IntWalk.u8_in]
  exact Ent.refl _ _
theorem sRU32 (n : Int) (rest : List Int) (h0 : 0 ≤ n) (h1 : n < 4294967296) (hl : rest.length < 900000) : ASpec Go.Proofs.Try.prog 91 [.ptr 0 0] [rcell (be 4 n ++ rest)] (fun r h => r = .int .u32 n ∧ h = [rcell rest]) := by
  refine spec91 ?_ (by simp)
  simp [c91]
  refine AC.det [0] [.ptr 0 0, .int .i64 (4 : Nat)] (sNumber (be 4 n) rest 4 (by simp) (by omega) (be_byte 4 n) (by simp; omega)) (by decide) (by simp [rcell]) (by simp) trivial ?_
  rw [num_be' 4 n h0 (by omega)]
  simp [rcell]
  simp (disch := omega) only [IntWalk.u32_in]
  exact Ent.refl _ _
theorem sRU64 (n : Int) (rest : List Int) (h0 : 0 ≤ n) (h1 : n < 18446744073709551616) (hl : rest.length < 900000) : ASpec Go.Proofs.Try.prog 90 [.ptr 0 0] [rcell (be 8 n ++ rest)] (fun r h => r = .int .u64 n ∧ h = [rcell rest]) := by
  refine spec90 ?_ (by simp)
  simp [c90]
  refine AC.det [0] [.ptr 0 0, .int .i64 (8 : Nat)] (sNumber (be 8 n) rest 8 (by simp) (by omega) (be_byte 8 n) (by simp; omega)) (by decide) (by simp [rcell]) (by simp) trivial ?_
  rw [num_be' 8 n h0 (by omega)]
  simp [rcell]
  exact Ent.refl _ _

theorem sRText (s rest : List Int) (hs : s.length ≤ 255) (hl : rest.length < 900000) : ASpec Go.Proofs.Try.prog 92 [.ptr 0 0] [rcell ((s.length : Int) :: s ++ rest)] (fun r h => r = bs s ∧ h = [rcell rest]) := by
  refine spec92 ?_ (by simp)
  have hp : (0 : Int) < ↑s.length + ↑rest.length + 1 := by omega
  have hp' : ¬ (↑s.length + ↑rest.length + 1 : Int) ≤ 0 := by omega
  have hb0 : bf ((s.length : Int) :: (s ++ rest)) 0 0 = .int .u8 s.length := rfl
  simp [c92, rcell, bs, hp, hp', hb0]
  simp (disch := omega) only [IntWalk.i64_in]
  have hc : (1 + s.length : Int) = ((s.length + 1 : Nat) : Int) := by omega
  rw [hc]
  refine AC.det [0] [.ptr 0 0, .int .i64 (s.length + 1 : Nat)] (sTake ((s.length : Int) :: (s ++ rest)) (s.length + 1) (by simp) (by simp; omega)) (by decide) (by simp [rcell, bs]) (by simp) trivial ?_
  have e1 : ((s.length : Int) :: (s ++ rest)).take (s.length + 1) = (s.length : Int) :: s := by simp
  have e2 : ((s.length : Int) :: (s ++ rest)).drop (s.length + 1) = rest := by simp
  have h3 : ¬ ((s.length : Int) + 1 = 0) := by omega
  have h4 : (1 : Int) ≤ s.length + 1 := by omega
  rw [e1, e2]
  simp [rcell, bs, h3, h4]
  refine ⟨by omega, ?_⟩
  have hf : (fun i j => bf ((s.length : Int) :: s) (1 + i) j) = bf s := by
    funext i j
    simp [bf, Nat.add_comm 1 i]
  rw [hf]
  refine (Ent.frz 2 (T := 5) (s := 1) (n' := s.length) (f := bf s) rfl).trans ?_
  exact Ent.map [0] (idn rfl) (by simp) (by simp) (by simp) (by simp)

theorem sRDone : ASpec Go.Proofs.Try.prog 93 [.ptr 0 0] [rcell []] (fun r h => r = .int .i64 0 ∧ h = [rcell []]) := by
  refine spec93 ?_ (by simp)
  simp [c93, rcell, bs]
  exact Ent.refl _ _
end Go.AM.S
