/- A part of the proof: lemmas. -/
import Derived.Test.YtdoekadmocabdaaW21
set_option linter.unusedVariables false
set_option linter.unusedSimpArgs false
set_option maxRecDepth 100000
set_option maxHeartbeats 4000000
namespace Go.AM.S
open Go Go.AM

theorem sRowFz (eps : List Int) (mark : Int) (hl : eps.length < 900) (hm : 0 ≤ mark ∧ mark < 256) : ASpec Go.Proofs.Try.prog 35 [.own 0 1 eps.length, .int .u8 mark] [urow eps eps.length] (fun r h => r = ents (rowL eps mark) ∧ h = [urow eps eps.length]) := by
  refine ASpec.ent (sRowLaw eps mark hl hm) ?_
  rintro r h ⟨rfl, rfl⟩
  refine ⟨_, _, ?_, rfl, rfl⟩
  refine (Ent.frz 1 (T := 69) (s := 11) (n' := eps.length) (f := entF (rowL eps mark)) rfl).trans ?_
  refine Ent.map [0] (idn rfl) (by simp) (by simp [urow]) ?_ (by simp [ents])
  exact ⟨.inr ⟨_, rfl, rfl, rfl, rfl, Nat.le_refl _, id, fun p q hp hq => AVle_ren _ (fz_uf _ _ _ _ _ _ _) (ren_uf _ _ _ _)⟩, trivial⟩

/-- What a primary sends. -/
theorem sSendX {X : List Entry} (h : RowOk X) (hf : firstL X = 1) (hl : X.length < 100) (i : Nat) (hi : i < X.length) (ep : Int) (hep : (X.getD i default).epoch ≤ ep) (hep1 : ep < 4294967296) :
    ASpec Go.Proofs.Try.prog 10 [ents X, .int .u32 ep, .int .u64 (1 + i)] [] (fun r h => r = .tup [noteA (shipN ep (oldOf X i) i (enc (X.getD i default))), .bool true] ∧ h = []) := by
  have := sSend X h (by omega) ep i hi hep hep1 (fun _ => hf)
  rw [hf, show (1 : Int) + i - 1 = i by omega] at this
  exact this

/-- What a standby does of it. -/
theorem sTakeX {X l : List Entry} (hX : RowOk X) (hXf : firstL X = 1) (g : Good X l) (hl : l.length < 100) (i : Nat) (hi : i < X.length) (sn ep : Int) (hep : (X.getD i default).epoch ≤ ep) (hep1 : ep < 4294967296) :
    ASpec Go.Proofs.Try.prog 11 [ents l, .int .u32 sn, noteA (shipN ep (oldOf X i) i (enc (X.getD i default)))] [] (fun r h => r = .tup [ents (takeL l sn ep (oldOf X i) i (X.getD i default)).1, .int .u32 (takeL l sn ep (oldOf X i) i (X.getD i default)).2.1, noteA (takeL l sn ep (oldOf X i) i (X.getD i default)).2.2, .int .i64 0] ∧ h = []) :=
  sShipTake l g.ok (by omega) sn ep (oldOf X i) i (X.getD i default) (ship_ok hX hXf i hi ep hep hep1) (hap_of hX g i hi)

def kA : List Entry := rowL [1, 1, 3] 0
def kB : List Entry := rowL [1, 2] 0
theorem kA_eq : kA = [{ kind := 2, lsn := 1, epoch := 1, order := 1, key := [107], data := [0] }, { kind := 2, lsn := 2, epoch := 1, order := 1, key := [107], data := [0] }, { kind := 1, lsn := 3, epoch := 3 }] := by decide
theorem kB_eq : kB = [{ kind := 2, lsn := 1, epoch := 1, order := 1, key := [107], data := [0] }, { kind := 1, lsn := 2, epoch := 2 }] := by decide
theorem kA_ok : RowOk kA := rowL_ok _ _ (by omega) (by decide) (by decide) (fun i hi => by
  simp only [List.length_cons, List.length_nil] at hi
  obtain rfl | rfl : i = 0 ∨ i = 1 := by omega
  all_goals decide)
theorem kB_ok : RowOk kB := rowL_ok _ _ (by omega) (by decide) (by decide) (fun i hi => by
  simp only [List.length_cons, List.length_nil] at hi
  obtain rfl : i = 0 := by omega
  decide)
def kC : List Entry := kA.take 2
theorem kT1 : takeL kB 2 3 (oldOf kA 2) 2 (kA.getD 2 default) = (kB, 3, noteBack 3 1) := by decide
theorem kT2 : takeL kB 3 3 (oldOf kA 1) 1 (kA.getD 1 default) = (kC, 3, noteAck 3 2) := by decide
theorem kGood : Good kA kB := by
  refine ⟨kB_ok, rfl, ?_⟩
  intro i h0 h1 h2 he
  have h3 : i = 1 ∨ i = 2 := by
    have : kB.length = 2 := rfl
    omega
  rcases h3 with rfl | rfl
  · decide
  · exact absurd he (by decide)

def kF (l : List Int) : Nat → Nat → AV := fun i j => (l.map (AV.int .u32)).getD (i + j) .und
@[simp] theorem ren_kF (σ : Nat → Nat) (l : List Int) (i j : Nat) : ren σ (kF l i j) = kF l i j := by
  unfold kF
  generalize i + j = q
  induction l generalizing q with
  | nil => simp
  | cons x l ih => cases q with
    | zero => simp
    | succ q => simpa using ih q
theorem kF_le (l : List Int) : AOles [.row 26 1 l.length (kF l)] [urow l l.length] := by
  refine ⟨⟨rfl, rfl, rfl, Nat.le_refl _, id, fun i j hi hj => AVle.of_eq ?_⟩, trivial⟩
  obtain rfl : j = 0 := by omega
  rw [uf_app]
  unfold kF
  simp [hi]

theorem sKnown : ASpec Go.Proofs.Try.prog 9 [] [] (fun r h => r = .bool true ∧ h = []) := by
  refine spec9 ?_ (by simp)
  simp (maxSteps := 10000000) (implicitDefEqProofs := false) [c9]
  refine AC.det [0] [.own 0 1 [(1 : Int), 1, 3].length, .int .u8 0] ((sRowFz [1, 1, 3] 0 (by decide) (by omega)).pre (kF_le [1, 1, 3])) (by decide) (by simp; rfl) (by simp) (by simp) ?_
  simp (maxSteps := 10000000) (implicitDefEqProofs := false) [urow]
  refine AC.det [1] [.own 0 1 [(1 : Int), 2].length, .int .u8 0] ((sRowFz [1, 2] 0 (by decide) (by omega)).pre (kF_le [1, 2])) (by decide) (by simp; rfl) (by simp) (by simp) ?_
  simp (maxSteps := 10000000) (implicitDefEqProofs := false) [urow]
  refine AC.plain [ents kA, .int .u32 3, .int .u64 (1 + (2 : Nat))] (sSendX kA_ok rfl (by decide) 2 (by decide) 3 (by decide) (by decide)) (by simp [kA]) ?_
  simp (maxSteps := 10000000) (implicitDefEqProofs := false) [noteA, noteL, shipN]
  refine AC.plain [ents kB, .int .u32 2, noteA (shipN 3 (oldOf kA 2) (2 : Nat) (enc (kA.getD 2 default)))] (sTakeX kA_ok rfl kGood (by decide) 2 (by decide) 2 3 (by decide) (by decide)) (by simp [kB, noteA, noteL, shipN]) ?_
  rw [show takeL kB 2 3 (oldOf kA 2) (2 : Nat) (kA.getD 2 default) = (kB, 3, noteBack 3 1) from kT1]
  simp (maxSteps := 10000000) (implicitDefEqProofs := false) [noteA, noteL, noteBack]
  refine AC.plain [.int .u64 3, noteA (noteBack 3 1)] (sNext 3 (noteBack 3 1) (by decide) (by decide)) (by simp [noteA, noteL, noteBack]) ?_
  simp (maxSteps := 10000000) (implicitDefEqProofs := false) [noteBack]
  refine AC.plain [ents kA, .int .u32 3, .int .u64 (1 + (1 : Nat))] (sSendX kA_ok rfl (by decide) 1 (by decide) 3 (by decide) (by decide)) (by simp [kA]; exact AVle.int (by decide)) ?_
  simp (maxSteps := 10000000) (implicitDefEqProofs := false) [noteA, noteL, shipN]
  refine AC.plain [ents kB, .int .u32 3, noteA (shipN 3 (oldOf kA 1) (1 : Nat) (enc (kA.getD 1 default)))] (sTakeX kA_ok rfl kGood (by decide) 1 (by decide) 3 3 (by decide) (by decide)) (by simp [noteA, noteL, shipN]) ?_
  rw [show takeL kB 3 3 (oldOf kA 1) (1 : Nat) (kA.getD 1 default) = (kC, 3, noteAck 3 2) from kT2]
  have ho : oldOf kA 2 = 1 := by decide
  have hlen : kC.length = 2 := by decide
  have hep : entF kC 1 2 = .int .u32 1 := by rfl
  simp (maxSteps := 10000000) (implicitDefEqProofs := false) [noteA, noteL, noteAck, ents, ho, hlen, hep]
  refine AC.plain [.int .i64 1, .int .u64 5, .int .u64 3] (sCommit 5 3) (by simp) ?_
  simp (maxSteps := 10000000) (implicitDefEqProofs := false)
  exact Ent.map [] (idn rfl) (by simp) (by simp) (by simp) (by simp; exact AVle.bool (by decide))
end Go.AM.S
