/- A part of the proof: lemmas. -/
import Derived.Test.YtdoekadmocabdaaW5
set_option linter.unusedVariables false
set_option linter.unusedSimpArgs false
set_option maxRecDepth 100000
set_option maxHeartbeats 4000000
namespace Go.AM.S
open Go Go.AM

theorem sGet1 (e : Entry) (hv : Valid e) (hk1 : e.kind = 1) : ASpec Go.Proofs.Try.prog 75 [bs (enc e)] [] (fun r h => r = .tup [ent e, .int .i64 0] ∧ h = []) := by
  refine spec75 ?_ (by simp)
  have hv' := hv
  obtain ⟨hl0, hl1, he0, he1, ⟨hr1, hr2, hr3, hr4, hr5⟩, hk⟩ := hv
  obtain ⟨_, ho, hkey, hdata⟩ : e.kind = 1 ∧ e.order = 0 ∧ e.key = [] ∧ e.data = [] := by
    rcases hk with h | h
    · exact h
    · omega
  simp (maxSteps := 10000000) (implicitDefEqProofs := false) [c75]
  refine AC.det [] [bs (enc e)] (sNewR (enc e) (by simp [enc, hk1])) (by decide) (by simp) (by simp) (by simp) ?_
  have he : enc e = be 1 1 ++ (be 8 e.lsn ++ (be 4 e.epoch ++ [])) := by simp [enc, hk1]
  rw [he]
  simp (maxSteps := 10000000) (implicitDefEqProofs := false) [rcell]
  refine AC.det [1] [.ptr 0 0] (sRU8 1 (be 8 e.lsn ++ (be 4 e.epoch ++ [])) (by omega) (by omega) (by simp)) (by decide) (by simp [rcell]) (by simp) (by simp) ?_
  simp (maxSteps := 10000000) (implicitDefEqProofs := false) [rcell]
  simp (disch := omega) only [IntWalk.i64_in]
  refine AC.det [1] [.ptr 0 0] (sRU64 e.lsn (be 4 e.epoch ++ []) (by omega) (by omega) (by simp)) (by decide) (by simp [rcell]) (by simp) (by simp) ?_
  simp (maxSteps := 10000000) (implicitDefEqProofs := false) [rcell]
  refine AC.det [1] [.ptr 0 0] (sRU32 e.epoch [] (by omega) (by omega) (by simp)) (by decide) (by simp [rcell]) (by simp) (by simp) ?_
  simp (maxSteps := 10000000) (implicitDefEqProofs := false) [rcell]
  refine AC.det [1] [.ptr 0 0] sRDone (by decide) (by simp [rcell]) (by simp) (by simp) ?_
  simp (maxSteps := 10000000) (implicitDefEqProofs := false) [rcell]
  have ha : AVle (.agg [.int .i64 1, .int .u64 e.lsn, .int .u32 e.epoch, .int .u32 0, .int .i64 0, .bool false, .int .i64 0, .int .i64 0, .int .u64 0, .nils, .nils]) (ent e) := by
    unfold ent entL
    rw [hk1, ho, hr1, hr2, hr3, hr4, hr5, hkey, hdata]
    exact AVle.agg (by simp)
  refine AC.plain [ent e] (sCheck e hv') (by simpa using ha) ?_
  simp (maxSteps := 10000000) (implicitDefEqProofs := false)
  exact Ent.map [] (idn rfl) (by simp) (by simp) (by simp) (by simpa using AVle.tup (by simpa using ha))

theorem sGet2 (e : Entry) (hv : Valid e) (hk1 : e.kind = 2) : ASpec Go.Proofs.Try.prog 75 [bs (enc e)] [] (fun r h => r = .tup [ent e, .int .i64 0] ∧ h = []) := by
  refine spec75 ?_ (by simp)
  have hv' := hv
  obtain ⟨hl0, hl1, he0, he1, ⟨hr1, hr2, hr3, hr4, hr5⟩, hk⟩ := hv
  obtain ⟨_, ho0, ho1, hkl0, hkl1, hdl, hkb, hdb⟩ : e.kind = 2 ∧ 0 < e.order ∧ e.order < 4294967296 ∧ 0 < e.key.length ∧ e.key.length ≤ 32 ∧ e.data.length ≤ 200 ∧ bytes e.key ∧ bytes e.data := by
    rcases hk with h | h
    · omega
    · exact h
  simp (maxSteps := 10000000) (implicitDefEqProofs := false) [c75]
  refine AC.det [] [bs (enc e)] (sNewR (enc e) (by simp [enc, hk1]; omega)) (by decide) (by simp) (by simp) (by simp) ?_
  have he : enc e = be 1 2 ++ (be 8 e.lsn ++ (be 4 e.epoch ++ (be 4 e.order ++ ((e.key.length : Int) :: e.key ++ ((e.data.length : Int) :: e.data ++ []))))) := by simp [enc, hk1]
  rw [he]
  simp (maxSteps := 10000000) (implicitDefEqProofs := false) [rcell]
  refine AC.det [1] [.ptr 0 0] (sRU8 2 (be 8 e.lsn ++ (be 4 e.epoch ++ (be 4 e.order ++ ((e.key.length : Int) :: e.key ++ ((e.data.length : Int) :: e.data ++ []))))) (by omega) (by omega) (by simp; omega)) (by decide) (by simp [rcell]) (by simp) (by simp) ?_
  simp (maxSteps := 10000000) (implicitDefEqProofs := false) [rcell]
  simp (disch := omega) only [IntWalk.i64_in]
  refine AC.det [1] [.ptr 0 0] (sRU64 e.lsn (be 4 e.epoch ++ (be 4 e.order ++ ((e.key.length : Int) :: e.key ++ ((e.data.length : Int) :: e.data ++ [])))) (by omega) (by omega) (by simp; omega)) (by decide) (by simp [rcell]) (by simp) (by simp) ?_
  simp (maxSteps := 10000000) (implicitDefEqProofs := false) [rcell]
  refine AC.det [1] [.ptr 0 0] (sRU32 e.epoch (be 4 e.order ++ ((e.key.length : Int) :: e.key ++ ((e.data.length : Int) :: e.data ++ []))) (by omega) (by omega) (by simp; omega)) (by decide) (by simp [rcell]) (by simp) (by simp) ?_
  simp (maxSteps := 10000000) (implicitDefEqProofs := false) [rcell]
  refine AC.det [1] [.ptr 0 0] (sRU32 e.order ((e.key.length : Int) :: e.key ++ ((e.data.length : Int) :: e.data ++ [])) (by omega) (by omega) (by simp; omega)) (by decide) (by simp [rcell]) (by simp) (by simp) ?_
  simp (maxSteps := 10000000) (implicitDefEqProofs := false) [rcell]
  refine AC.det [1] [.ptr 0 0] (sRText e.key ((e.data.length : Int) :: e.data ++ []) (by omega) (by simp; omega)) (by decide) (by simp [rcell]) (by simp) (by simp) ?_
  simp (maxSteps := 10000000) (implicitDefEqProofs := false) [rcell]
  refine AC.det [1] [.ptr 0 0] (sRText e.data [] (by omega) (by simp)) (by decide) (by simp [rcell]) (by simp) (by simp) ?_
  simp (maxSteps := 10000000) (implicitDefEqProofs := false) [rcell]
  refine AC.det [1] [.ptr 0 0] sRDone (by decide) (by simp [rcell]) (by simp) (by simp) ?_
  simp (maxSteps := 10000000) (implicitDefEqProofs := false) [rcell]
  have ha : AVle (.agg [.int .i64 2, .int .u64 e.lsn, .int .u32 e.epoch, .int .u32 e.order, .int .i64 0, .bool false, .int .i64 0, .int .i64 0, .int .u64 0, bs e.key, bs e.data]) (ent e) := by
    unfold ent entL
    rw [hk1, hr1, hr2, hr3, hr4, hr5]
    exact AVle.agg (by simp)
  refine AC.plain [ent e] (sCheck e hv') (by simpa using ha) ?_
  simp (maxSteps := 10000000) (implicitDefEqProofs := false)
  exact Ent.map [] (idn rfl) (by simp) (by simp) (by simp) (by simpa using AVle.tup (by simpa using ha))

theorem sGet (e : Entry) (hv : Valid e) : ASpec Go.Proofs.Try.prog 75 [bs (enc e)] [] (fun r h => r = .tup [ent e, .int .i64 0] ∧ h = []) := by
  rcases hv.kinds with h | h
  · exact sGet1 e hv h.1
  · exact sGet2 e hv h.1
end Go.AM.S
