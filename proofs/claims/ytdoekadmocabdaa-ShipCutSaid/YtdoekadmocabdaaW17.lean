/- A part of the proof: lemmas. -/
import Derived.Test.YtdoekadmocabdaaW16
set_option linter.unusedVariables false
set_option linter.unusedSimpArgs false
set_option maxRecDepth 100000
set_option maxHeartbeats 4000000
namespace Go.AM.S
open Go Go.AM

theorem ASpec.ent {P : Program} {f : FuncId} {args : List AV} {os : List AO} {post post' : AV → List AO → Prop} (h : ASpec P f args os post) (hp : ∀ r h, post r h → ∃ r' h', Ent os.length ⟨[r], h⟩ ⟨[r'], h'⟩ ∧ post' r' h') : ASpec P f args os post' := by
  intro R w I vs hs ha
  refine (h R w I vs hs ha).mono fun e w' ⟨r, h', v, R', I', h1, h2, h3, h4⟩ => ?_
  obtain ⟨r2, h5, h6, h7⟩ := hp r h' h1
  obtain ⟨R2, I2, h8, h9⟩ := h6 _ R' w' I' [v] hs.len h3 (by unfold CRelL; exact ⟨v, [], rfl, h4, by unfold CRelL; rfl⟩)
  unfold CRelL at h9
  obtain ⟨v2, vr, hv, h10, _⟩ := h9
  cases hv
  exact ⟨r2, h5, v, R2, I2, h7, h2, h8, h10⟩

def fzT (k s n' : Nat) (f : Nat → Nat → AV) : List (Nat × AV) → List (Nat × AV)
  | [] => []
  | p :: l => (p.1, fz k s n' f p.2) :: fzT k s n' f l
attribute [simp] fzT
theorem look_fzT (k s n' : Nat) (f : Nat → Nat → AV) : ∀ (l : List (Nat × AV)) (j : Nat), look (fzT k s n' f l) j = fz k s n' f (look l j)
  | [], j => by simp
  | p :: l, j => by
    simp only [fzT, look, look_fzT k s n' f l j]
    cases p.1 == j <;> rfl
@[simp] theorem fzL_mkT (k s n' : Nat) (f : Nat → Nat → AV) (n : Nat) (l : List (Nat × AV)) : fzL k s n' f (mkT n l) = mkT n (fzT k s n' f l) := by
  have : ∀ m : List AV, fzL k s n' f m = m.map (fz k s n' f) := fun m => by
    induction m with
    | nil => rfl
    | cons x r ih => simp [ih]
  rw [this]
  unfold mkT
  rw [List.map_map]
  congr 1
  funext j
  simp [look_fzT]

def uf (l : List Int) : Nat → Nat → AV := fun i _ => .int .u32 (l.getD i 0)
@[simp] theorem ren_uf (σ : Nat → Nat) (l : List Int) (i j : Nat) : ren σ (uf l i j) = uf l i j := by simp [uf]
@[simp] theorem fz_uf (k s n' : Nat) (f : Nat → Nat → AV) (l : List Int) (i j : Nat) : fz k s n' f (uf l i j) = uf l i j := by simp [uf]
theorem uf_app (l : List Int) (i j : Nat) : uf l i j = .int .u32 (l.getD i 0) := rfl
def urow (l : List Int) (n : Nat) : AO := .row 26 1 n (uf l)

/-- An entry of a row of epochs. -/
def rowE (eps : List Int) (mark : Int) (i : Nat) : Entry :=
  if 0 < i ∧ eps.getD i 0 ≠ eps.getD (i - 1) 0 then { kind := 1, lsn := i + 1, epoch := eps.getD i 0 }
  else { kind := 2, lsn := i + 1, epoch := eps.getD i 0, order := 1, key := [107], data := [mark] }
def rowL (eps : List Int) (mark : Int) : List Entry := (List.range eps.length).map (rowE eps mark)
@[simp] theorem rowL_len (eps : List Int) (mark : Int) : (rowL eps mark).length = eps.length := by simp [rowL]
theorem rowL_get (eps : List Int) (mark : Int) (i : Nat) (h : i < eps.length) : (rowL eps mark).getD i default = rowE eps mark i := by
  simp [rowL, h]

theorem all_one (L : List AV) (hl : L.length = 11) (h : L.all AV.one = true) (p q : Nat) (hp : p = 0) (hq : q < 11) : (L[p * 11 + q]?.getD .und).one = true := by
  subst hp
  have hlt : 0 * 11 + q < L.length := by omega
  rw [List.getElem?_eq_getElem hlt]
  exact List.all_eq_true.1 h _ (List.getElem_mem hlt)

theorem fzL_getD (k s n' : Nat) (f : Nat → Nat → AV) : ∀ (L : List AV) (q : Nat), fz k s n' f (L[q]?.getD .und) = (fzL k s n' f L)[q]?.getD .und
  | [], q => by simp
  | x :: L, 0 => by simp
  | x :: L, q + 1 => by simpa using fzL_getD k s n' f L q

theorem AVles_getD : ∀ {L M : List AV} (q : Nat), AVles L M → AVle (L[q]?.getD .und) (M[q]?.getD .und)
  | [], [], q, _ => by simp
  | x :: L, y :: M, 0, h => by simpa using h.1
  | x :: L, y :: M, q + 1, h => by simpa using AVles_getD q h.2
  | [], _ :: _, _, h => h.elim
  | _ :: _, [], _, h => h.elim

/-- One entry more in a row, told anew. -/
theorem row_ptz (l : List Entry) (L : List AV) (i k s n' : Nat) (f : Nat → Nat → AV) (h : AVles (fzL k s n' f L) (entL (l.getD i default))) (p q : Nat) (hp : p < i + 1) (σ : Nat → Nat) :
    AVle (fz k s n' f ((if p < i then entF l p else fun j => L[(p - i) * 11 + j]?.getD .und) q)) (ren σ (entF l p q)) := by
  rw [ren_entF]
  split
  · rw [fz_entF]; exact AVle.refl _
  · obtain rfl : p = i := by omega
    simp only [Nat.sub_self, Nat.zero_mul, Nat.zero_add]
    rw [fzL_getD]
    have := AVles_getD q h
    rwa [← List.getD_eq_getElem?_getD (l := entL _)] at this
theorem row_pt (l : List Entry) (L : List AV) (i : Nat) (h : AVles L (entL (l.getD i default))) (p q : Nat) (hp : p < i + 1) (σ : Nat → Nat) :
    AVle ((if p < i then entF l p else fun j => L[(p - i) * 11 + j]?.getD .und) q) (ren σ (entF l p q)) := by
  rw [ren_entF]
  split
  · exact AVle.refl _
  · obtain rfl : p = i := by omega
    simp only [Nat.sub_self, Nat.zero_mul, Nat.zero_add]
    have := AVles_getD q h
    rwa [← List.getD_eq_getElem?_getD (l := entL _)] at this

theorem row_pt0z (l : List Entry) (L : List AV) (k s n' : Nat) (f : Nat → Nat → AV) (h : AVles (fzL k s n' f L) (entL (l.getD 0 default))) (p q : Nat) (hp : p < 1) (σ : Nat → Nat) :
    AVle (fz k s n' f (L[p * 11 + q]?.getD .und)) (ren σ (entF l p q)) := by
  rw [ren_entF]
  obtain rfl : p = 0 := by omega
  simp only [Nat.zero_mul, Nat.zero_add]
  rw [fzL_getD]
  have := AVles_getD q h
  rwa [← List.getD_eq_getElem?_getD (l := entL _)] at this

/-- One byte. -/
theorem byte_one (x : Int) : AVle (.psl 1 1 fun i j => [AV.int IntKind.u8 x][i + j]?.getD AV.und) (bs [x]) :=
  AVle.psl rfl fun i j hi hj => by
    obtain rfl : i = 0 := by omega
    obtain rfl : j = 0 := by omega
    exact AVle.of_eq rfl

theorem sRowLaw (eps : List Int) (mark : Int) (hl : eps.length < 900) (hm : 0 ≤ mark ∧ mark < 256) : ASpec Go.Proofs.Try.prog 35 [.own 0 1 eps.length, .int .u8 mark] [urow eps eps.length] (fun r h => r = .own 1 11 eps.length ∧ h = [urow eps eps.length, erow (rowL eps mark) eps.length]) := by
  refine spec35 ?_ (by simp)
  simp (maxSteps := 10000000) (implicitDefEqProofs := false) [c35]
  refine AWP.loop (D := Nat) (fun i => i ≤ eps.length) (fun i => ⟨mkT 53 [(0, .own 0 1 eps.length), (1, .int .u8 mark), (5, .own 1 11 i), (6, .int .i64 i)], [urow eps eps.length, erow (rowL eps mark) i]⟩) (fun i => eps.length - i) 0 (by omega) ?_ ?_
  · refine (Ent.addNil 69 11 (entF (rowL eps mark)) (by decide) [5] (by simp [mkT_get])).trans ?_
    exact Ent.map [0, 1] (idn rfl) (by simp) (by simp [erow, urow]) (by simp [erow, urow]) (by simp; exact AVles_mkT (by simp))
  · intro i hi
    apply aexec_sound hmix; apply AX_of
    by_cases hil : i < eps.length
    · have hpos : 0 < eps.length := by omega
      have w1 : IntKind.i64.wrap ((i : Int) + 1) = i + 1 := IntWalk.i64_in _ (by omega)
      have w2 : IntKind.u64.wrap ((i : Int) + 1) = i + 1 := IntWalk.u64_in _ (by omega)
      have w3 : 0 < i → IntKind.i64.wrap ((i : Int) - 1) = ((i - 1 : Nat) : Int) := fun h => by rw [IntWalk.i64_in _ (by omega)]; omega
      have hrow : (rowL eps mark).getD i default = rowE eps mark i := rowL_get eps mark i hil
      by_cases h0 : i = 0
      · subst h0
        have hE : rowE eps mark 0 = { kind := 2, lsn := 1, epoch := eps[0], order := 1, key := [107], data := [mark] } := by
          unfold rowE; rw [if_neg (by simp)]; simp [hil]
        have w4 : IntKind.i64.wrap 1 = 1 := IntWalk.i64_in _ (by omega)
        have w5 : IntKind.u64.wrap 1 = 1 := IntWalk.u64_in _ (by omega)
        simp (maxSteps := 10000000) (implicitDefEqProofs := false) [urow, erow, hil, uf_app, hpos, w4, w5]
        refine ⟨fun p q hp hq => all_one _ rfl rfl p q hp hq, 1, by omega, by omega, ?_⟩
        refine (Ent.frz 3 (T := 5) (s := 1) (n' := 1) (f := fun i j => [AV.int IntKind.u8 mark][i + j]?.getD AV.und) rfl).trans ?_
        refine Ent.map [0, 6] (idn rfl) (by simp) (by simp) ?_ (by simp; exact AVles_mkT (by simp))
        refine ⟨.inr ⟨_, rfl, rfl, rfl, rfl, Nat.le_refl _, id, fun p q hp hq => AVle.of_eq (by simp)⟩, .inr ⟨_, rfl, rfl, rfl, rfl, Nat.le_refl _, id, fun p q hp hq => row_pt0z _ _ 3 1 1 _ ?_ p q hp _⟩, trivial⟩
        rw [hrow, hE]
        simp [entL]
        exact ⟨byte_one _, byte_one _⟩
      · have hp : 0 < i := by omega
        have hpi : (0:Int) < i := by omega
        have hi1 : i - 1 < eps.length := by omega
        by_cases hc : eps[i] = eps[i - 1]
        · have hE : rowE eps mark i = { kind := 2, lsn := i + 1, epoch := eps[i], order := 1, key := [107], data := [mark] } := by
            unfold rowE; rw [if_neg (by simp [hil, hi1, hc])]; simp [hil]
          simp (maxSteps := 10000000) (implicitDefEqProofs := false) [urow, erow, hil, hp, hpi, w1, w2, w3 hp, hi1, uf_app, hc, hpos]
          refine ⟨⟨by omega, by omega, fun p q hp hq => all_one _ rfl rfl p q hp hq⟩, i + 1, by omega, by omega, ?_⟩
          refine (Ent.frz 3 (T := 5) (s := 1) (n' := 1) (f := fun i j => [AV.int IntKind.u8 mark][i + j]?.getD AV.und) rfl).trans ?_
          refine Ent.map [0, 6] (idn rfl) (by simp) (by simp) ?_ (by simp; exact AVles_mkT (by simp))
          refine ⟨.inr ⟨_, rfl, rfl, rfl, rfl, Nat.le_refl _, id, fun p q hp hq => AVle.of_eq (by simp)⟩, .inr ⟨_, rfl, rfl, rfl, rfl, Nat.le_refl _, id, fun p q hp hq => row_ptz _ _ i 3 1 1 _ ?_ p q hp _⟩, trivial⟩
          rw [hrow, hE, hc]
          simp [entL]
          exact ⟨byte_one _, byte_one _⟩
        · have hE : rowE eps mark i = { kind := 1, lsn := i + 1, epoch := eps[i] } := by
            unfold rowE; rw [if_pos (by simp [hil, hi1, hc, hp])]; simp [hil]
          simp (maxSteps := 10000000) (implicitDefEqProofs := false) [urow, erow, hil, hp, hpi, w1, w2, w3 hp, hi1, uf_app, hc, hpos]
          refine ⟨⟨by omega, by omega, fun p q hp hq => all_one _ rfl rfl p q hp hq⟩, i + 1, by omega, by omega, ?_⟩
          refine Ent.map [0, 6] (idn rfl) (by simp) (by simp) ?_ (by simp; exact AVles_mkT (by simp))
          refine ⟨.inr ⟨_, rfl, rfl, rfl, rfl, Nat.le_refl _, id, fun p q hp hq => AVle.of_eq (by simp)⟩, .inr ⟨_, rfl, rfl, rfl, rfl, Nat.le_refl _, id, fun p q hp hq => row_pt _ _ i ?_ p q hp _⟩, trivial⟩
          rw [hrow, hE]
          simp [entL]
    · obtain rfl : i = eps.length := by omega
      simp (maxSteps := 10000000) (implicitDefEqProofs := false) [urow, erow]
      exact Ent.refl _ _
end Go.AM.S
