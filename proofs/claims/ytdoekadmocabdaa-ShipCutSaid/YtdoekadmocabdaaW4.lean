/- A part of the proof: lemmas. -/
import Derived.Test.YtdoekadmocabdaaW3
set_option linter.unusedVariables false
set_option linter.unusedSimpArgs false
set_option maxRecDepth 100000
set_option maxHeartbeats 4000000
namespace Go.AM.S
open Go Go.AM

structure Entry where
  kind : Int
  lsn : Int
  epoch : Int
  order : Int := 0
  step : Int := 0
  undo : Bool := false
  tr : Int := 0
  code : Int := 0
  mark : Int := 0
  key : List Int := []
  data : List Int := []
  deriving DecidableEq

def entL (e : Entry) : List AV := [.int .i64 e.kind, .int .u64 e.lsn, .int .u32 e.epoch, .int .u32 e.order, .int .i64 e.step, .bool e.undo, .int .i64 e.tr, .int .i64 e.code, .int .u64 e.mark, bs e.key, bs e.data]
def ent (e : Entry) : AV := .agg (entL e)
@[simp] theorem ren_entL (σ : Nat → Nat) (e : Entry) : renL σ (entL e) = entL e := by simp [entL]
@[simp] theorem ren_ent (σ : Nat → Nat) (e : Entry) : ren σ (ent e) = ent e := by simp [ent]

/-- Is all nought? -/
def zeroE (e : Entry) : Bool := e.kind == 0 && e.lsn == 0 && e.epoch == 0 && e.order == 0 && e.step == 0 && !e.undo && e.tr == 0 && e.code == 0 && e.mark == 0 && e.key.length == 0 && e.data.length == 0

theorem AVle_nils (l : List Int) (h : l = []) : AVle .nils (bs l) := by subst h; exact AVle.nils
@[simp] theorem AVle_nils0 : AVle .nils (bs []) := AVle.nils

theorem sBare (e : Entry) : ASpec Go.Proofs.Try.prog 84 [ent e] [] (fun r h => r = ent { e with kind := 0, lsn := 0, epoch := 0 } ∧ h = []) := by
  refine spec84 ?_ (by simp)
  simp [c84, ent, entL, bs]
  exact Ent.map [] (idn rfl) (by simp) (by simp) (by simp) (by simp)

theorem sZero (e : Entry) (hz : zeroE e = true) : ASpec Go.Proofs.Try.prog 85 [ent e] [] (fun r h => r = .bool true ∧ h = []) := by
  refine spec85 ?_ (by simp)
  simp only [zeroE, Bool.and_eq_true, beq_iff_eq, Bool.not_eq_true'] at hz
  obtain ⟨⟨⟨⟨⟨⟨⟨⟨⟨⟨h1, h2⟩, h3⟩, h4⟩, h5⟩, h6⟩, h7⟩, h8⟩, h9⟩, h10⟩, h11⟩ := hz
  simp [c85, ent, entL, bs, h1, h2, h3, h4, h5, h6, h7, h8, h9, h10, h11]
  exact Ent.map [] (idn rfl) (by simp) (by simp) (by simp) (by simp)

def bytes (l : List Int) : Prop := ∀ x, x ∈ l → 0 ≤ x ∧ x < 256

/-- An entry that may be (of those that the laws make). -/
structure Valid (e : Entry) : Prop where
  l0 : 0 < e.lsn
  l1 : e.lsn < 18446744073709551616
  e0 : 0 < e.epoch
  e1 : e.epoch < 4294967296
  rest : e.step = 0 ∧ e.undo = false ∧ e.tr = 0 ∧ e.code = 0 ∧ e.mark = 0
  kinds : (e.kind = 1 ∧ e.order = 0 ∧ e.key = [] ∧ e.data = []) ∨ (e.kind = 2 ∧ 0 < e.order ∧ e.order < 4294967296 ∧ 0 < e.key.length ∧ e.key.length ≤ 32 ∧ e.data.length ≤ 200 ∧ bytes e.key ∧ bytes e.data)

theorem sCheck (e : Entry) (hv : Valid e) : ASpec Go.Proofs.Try.prog 58 [ent e] [] (fun r h => r = .int .i64 0 ∧ h = []) := by
  refine spec58 ?_ (by simp)
  obtain ⟨hl0, hl1, he0, he1, ⟨hr1, hr2, hr3, hr4, hr5⟩, hk⟩ := hv
  have n1 : ¬ e.lsn = 0 := by omega
  have n2 : ¬ e.epoch = 0 := by omega
  rcases hk with ⟨hk, ho, hkey, hdata⟩ | ⟨hk, ho0, ho1, hk0, hk1, hd1, _, _⟩
  · simp (maxSteps := 10000000) (implicitDefEqProofs := false) [c58, ent, entL, bs, hk, n1, n2]
    refine AC.plain [ent e] (sBare e) (by simp [ent, entL, bs, hk]) ?_
    simp (maxSteps := 10000000) (implicitDefEqProofs := false) [ent, entL, bs]
    refine AC.plain [ent { e with kind := 0, lsn := 0, epoch := 0 }] (sZero _ (by simp [zeroE, hr1, hr2, hr3, hr4, hr5, ho, hkey, hdata])) (by simp [ent, entL, bs]) ?_
    simp
    exact Ent.map [] (idn rfl) (by simp) (by simp) (by simp) (by simp)
  · have n3 : (0 : Int) < e.key.length := by omega
    have n4 : (e.key.length : Int) ≤ 32 := by omega
    have n5 : (e.data.length : Int) ≤ 200 := by omega
    simp (maxSteps := 10000000) (implicitDefEqProofs := false) [c58, ent, entL, bs, hk, n1, n2]
    refine AC.plain [ent e] (sBare e) (by simp [ent, entL, bs, hk]) ?_
    simp (maxSteps := 10000000) (implicitDefEqProofs := false) [ent, entL, bs, ho0, hk0, n3, n4, n5]
    refine AC.plain [ent { e with kind := 0, lsn := 0, epoch := 0, order := 0, key := [], data := [] }] (sZero _ (by simp [zeroE, hr1, hr2, hr3, hr4, hr5])) ?_ ?_
    · simp [ent, entL]
      exact AVle.agg (by simp)
    simp
    exact Ent.map [] (idn rfl) (by simp) (by simp) (by simp) (by simp)

/-- An entry's bytes. -/
def enc (e : Entry) : List Int :=
  be 1 e.kind ++ be 8 e.lsn ++ be 4 e.epoch ++ (if e.kind = 2 then be 4 e.order ++ (e.key.length : Int) :: e.key ++ (e.data.length : Int) :: e.data else [])

end Go.AM.S
