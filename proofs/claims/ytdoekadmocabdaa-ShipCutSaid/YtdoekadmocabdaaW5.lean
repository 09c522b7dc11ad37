/- A part of the proof: lemmas. -/
import Derived.Test.YtdoekadmocabdaaW4
set_option linter.unusedVariables false
set_option linter.unusedSimpArgs false
set_option maxRecDepth 100000
set_option maxHeartbeats 4000000
namespace Go.AM.S
open Go Go.AM
theorem be_one (n : Int) (h0 : 0 ≤ n) (h1 : n < 256) : be 1 n = [n] := by simp [be]; omega

theorem sPut1 (e : Entry) (hv : Valid e) (hk1 : e.kind = 1) : ASpec Go.Proofs.Try.prog 40 [ent e] [] (fun r h => r = .tup [bs (enc e), .int .i64 0] ∧ h = []) := by
  refine spec40 ?_ (by simp)
  have hv' := hv
  obtain ⟨hl0, hl1, he0, he1, ⟨hr1, hr2, hr3, hr4, hr5⟩, hk⟩ := hv
  simp (maxSteps := 10000000) (implicitDefEqProofs := false) [c40, ent, entL, bs, hk1]
  refine AC.plain [ent e] (sCheck e hv') (by simp [ent, entL, bs, hk1]) ?_
  simp (implicitDefEqProofs := false)
  refine AC.det [] [] sNew (by decide) (by simp) (by simp) (by simp) ?_
  simp (implicitDefEqProofs := false) [wcell, brow]
  refine AC.det [1, 2] [.ptr 0 0, .int .u8 1] (sU8 [] false 1 (by omega) (by omega) (by simp)) (by decide) (by simp [wcell, brow]) (by simp; exact AVle.int rfl) (by simp) ?_
  simp (implicitDefEqProofs := false) [wcell, brow]
  refine AC.det [1, 3] [.ptr 0 0, .int .u64 e.lsn] (sU64 (be 1 1) false e.lsn (by simp)) (by decide) (by simp [wcell, brow]) (by simp) (by simp) ?_
  simp (implicitDefEqProofs := false) [wcell, brow]
  refine AC.det [1, 4] [.ptr 0 0, .int .u32 e.epoch] (sU32 (be 1 1 ++ be 8 e.lsn) false e.epoch (by omega) (by omega) (by simp)) (by decide) (by simp [wcell, brow]) (by simp) (by simp) ?_
  simp (maxSteps := 10000000) (implicitDefEqProofs := false) [wcell, brow]
  refine AC.det [1, 5] [.ptr 0 0] (sWDone (be 1 1 ++ be 8 e.lsn ++ be 4 e.epoch) (by simp)) (by decide) (by simp [wcell, brow]) (by simp) (by simp) ?_
  simp (implicitDefEqProofs := false) [wcell, brow]
  have he : be 1 1 ++ (be 8 e.lsn ++ be 4 e.epoch) = enc e := by simp [enc, hk1]
  rw [he]
  exact Ent.map [] (idn rfl) (by simp) (by simp) (by simp) (by simp [bs])

theorem sPut2 (e : Entry) (hv : Valid e) (hk1 : e.kind = 2) : ASpec Go.Proofs.Try.prog 40 [ent e] [] (fun r h => r = .tup [bs (enc e), .int .i64 0] ∧ h = []) := by
  refine spec40 ?_ (by simp)
  have hv' := hv
  obtain ⟨hl0, hl1, he0, he1, ⟨hr1, hr2, hr3, hr4, hr5⟩, hk⟩ := hv
  obtain ⟨_, ho0, ho1, hkl0, hkl1, hdl, hkb, hdb⟩ : e.kind = 2 ∧ 0 < e.order ∧ e.order < 4294967296 ∧ 0 < e.key.length ∧ e.key.length ≤ 32 ∧ e.data.length ≤ 200 ∧ bytes e.key ∧ bytes e.data := by
    rcases hk with h | h
    · omega
    · exact h
  simp (maxSteps := 10000000) (implicitDefEqProofs := false) [c40, ent, entL, bs, hk1]
  refine AC.plain [ent e] (sCheck e hv') (by simp [ent, entL, bs, hk1]) ?_
  simp (implicitDefEqProofs := false)
  refine AC.det [] [] sNew (by decide) (by simp) (by simp) (by simp) ?_
  simp (implicitDefEqProofs := false) [wcell, brow]
  refine AC.det [1, 2] [.ptr 0 0, .int .u8 2] (sU8 [] false 2 (by omega) (by omega) (by simp)) (by decide) (by simp [wcell, brow]) (by simp; exact AVle.int rfl) (by simp) ?_
  simp (implicitDefEqProofs := false) [wcell, brow]
  refine AC.det [1, 3] [.ptr 0 0, .int .u64 e.lsn] (sU64 (be 1 2) false e.lsn (by simp)) (by decide) (by simp [wcell, brow]) (by simp) (by simp) ?_
  simp (implicitDefEqProofs := false) [wcell, brow]
  refine AC.det [1, 4] [.ptr 0 0, .int .u32 e.epoch] (sU32 (be 1 2 ++ be 8 e.lsn) false e.epoch (by omega) (by omega) (by simp)) (by decide) (by simp [wcell, brow]) (by simp) (by simp) ?_
  simp (maxSteps := 10000000) (implicitDefEqProofs := false) [wcell, brow]
  refine AC.det [1, 5] [.ptr 0 0, .int .u32 e.order] (sU32 (be 1 2 ++ be 8 e.lsn ++ be 4 e.epoch) false e.order (by omega) (by omega) (by simp)) (by decide) (by simp [wcell, brow]) (by simp) (by simp) ?_
  simp (maxSteps := 10000000) (implicitDefEqProofs := false) [wcell, brow]
  refine AC.det [1, 6] [.ptr 0 0, bs e.key] (sText (be 1 2 ++ be 8 e.lsn ++ be 4 e.epoch ++ be 4 e.order) false e.key (by omega) (by simp)) (by decide) (by simp [wcell, brow]) (by simp [bs]) (by simp) ?_
  simp (maxSteps := 10000000) (implicitDefEqProofs := false) [wcell, brow]
  refine AC.det [1, 8] [.ptr 0 0, bs e.data] (sText (be 1 2 ++ be 8 e.lsn ++ be 4 e.epoch ++ be 4 e.order ++ (e.key.length : Int) :: e.key) false e.data (by omega) (by simp; omega)) (by decide) (by simp [wcell, brow]) (by simp [bs]) (by simp) ?_
  simp (maxSteps := 10000000) (implicitDefEqProofs := false) [wcell, brow]
  refine AC.det [1, 10] [.ptr 0 0] (sWDone (be 1 2 ++ be 8 e.lsn ++ be 4 e.epoch ++ be 4 e.order ++ (e.key.length : Int) :: e.key ++ (e.data.length : Int) :: e.data) (by simp; omega)) (by decide) (by simp [wcell, brow]) (by simp) (by simp) ?_
  have he : be 1 2 ++ be 8 e.lsn ++ be 4 e.epoch ++ be 4 e.order ++ (e.key.length : Int) :: e.key ++ (e.data.length : Int) :: e.data = enc e := by simp [enc, hk1]
  rw [he]
  simp (implicitDefEqProofs := false) [wcell, brow]
  exact Ent.map [] (idn rfl) (by simp) (by simp) (by simp) (by simp [bs])

theorem sPut40 (e : Entry) (hv : Valid e) : ASpec Go.Proofs.Try.prog 40 [ent e] [] (fun r h => r = .tup [bs (enc e), .int .i64 0] ∧ h = []) := by
  rcases hv.kinds with h | h
  · exact sPut1 e hv h.1
  · exact sPut2 e hv h.1
end Go.AM.S
