/- A part of the proof: lemmas. -/
import Derived.Test.YtdoekadmocabdaaW17
set_option linter.unusedVariables false
set_option linter.unusedSimpArgs false
set_option maxRecDepth 100000
set_option maxHeartbeats 4000000
namespace Go.AM.S
open Go Go.AM

/-- The epoch behind so many steps of what both have. -/
def eE (c : List Int) : Nat → Int
  | 0 => 1
  | i + 1 => eE c i + c.getD i 0 % 2
/-- The epoch behind so many steps of what one has alone. -/
def eA (s : Int) (a : List Int) : Nat → Int
  | 0 => s
  | i + 1 => if i = 0 ∨ a.getD i 0 % 3 = 0 then eA s a i + 2 else eA s a i
def nn (l : List Int) : Nat := min l.length 20
def lC (c : List Int) : List Int := (List.range (nn c)).map fun i => eE c (i + 1)
def eC (c : List Int) : Int := eE c (nn c)
def sA (c : List Int) : Int := eC c + 2 - eC c % 2
def sB (c : List Int) : Int := eC c + 1 + eC c % 2
def lX (c : List Int) (s : Int) (a : List Int) : List Int := lC c ++ (List.range (nn a)).map fun i => eA s a (i + 1)
def modE (lc i : Nat) (e : Entry) : Entry := if lc ≤ i ∧ 0 < e.data.length then { e with data := [2] } else e
def modY (lc k : Nat) (y : List Entry) : List Entry := y.mapIdx fun i e => if i < k then modE lc i e else e
def rowsX (c a : List Int) : List Entry := rowL (lX c (sA c) a) 1
def rowsY (c b : List Int) : List Entry := modY c.length 40 (rowL (lX c (sB c) b) 1)
def rowsE (c a b : List Int) : Int := max (eA (sA c) a (nn a)) (eA (sB c) b (nn b)) + 1

theorem eE_bd (c : List Int) : ∀ i, 1 ≤ eE c i ∧ eE c i ≤ 1 + i
  | 0 => by simp [eE]
  | i + 1 => by
    have := eE_bd c i
    simp only [eE]
    omega
theorem eA_bd (s : Int) (a : List Int) : ∀ i, s ≤ eA s a i ∧ eA s a i ≤ s + 2 * i
  | 0 => by simp [eA]
  | i + 1 => by
    have := eA_bd s a i
    simp only [eA]
    split <;> omega
theorem nn_le (l : List Int) : nn l ≤ 20 ∧ nn l ≤ l.length := by unfold nn; omega
@[simp] theorem lC_len (c : List Int) : (lC c).length = nn c := by simp [lC]
@[simp] theorem lX_len (c : List Int) (s : Int) (a : List Int) : (lX c s a).length = nn c + nn a := by simp [lX]
theorem lC_get (c : List Int) (i : Nat) (h : i < nn c) : (lC c).getD i 0 = eE c (i + 1) := by simp [lC, h]
theorem lX_get0 (c : List Int) (s : Int) (a : List Int) (i : Nat) (h : i < nn c) : (lX c s a).getD i 0 = (lC c).getD i 0 := by
  unfold lX
  rw [List.getD_eq_getElem?_getD, List.getElem?_append_left (by simpa using h), ← List.getD_eq_getElem?_getD]
theorem lX_get1 (c : List Int) (s : Int) (a : List Int) (i : Nat) (h : i < nn a) : (lX c s a).getD (nn c + i) 0 = eA s a (i + 1) := by
  unfold lX
  rw [List.getD_eq_getElem?_getD, List.getElem?_append_right (by simp)]
  simp [h]

theorem modY_len (lc k : Nat) (y : List Entry) : (modY lc k y).length = y.length := by simp [modY]
theorem modY_get (lc k p : Nat) (y : List Entry) (h : p < y.length) : (modY lc k y).getD p default = if p < k then modE lc p (y.getD p default) else y.getD p default := by
  unfold modY
  simp [h]
theorem modE_lo (lc p : Nat) (e : Entry) (h : p < lc) : modE lc p e = e := by unfold modE; rw [if_neg (by omega)]
theorem entF_ext (l m : List Entry) (p q : Nat) (h : l.getD p default = m.getD p default) : entF l p q = entF m p q := by unfold entF; rw [h]
theorem entL_data (e : Entry) (d : List Int) (q : Nat) (h : ¬ q = 10) : (entL { e with data := d }).getD q .und = (entL e).getD q .und := by
  unfold entL
  rcases q with _ | _ | _ | _ | _ | _ | _ | _ | _ | _ | _ | q
  all_goals first | rfl | omega
theorem mod_step (lc j p q : Nat) (y : List Entry) (hj : lc ≤ j) (hjl : j < y.length) (hd : 0 < (y.getD j default).data.length) (hp : p < y.length) (σ : Nat → Nat) (k s n' : Nat) (f : Nat → Nat → AV) (h0 : AVle (fz k s n' f (.own k 1 1)) (bs [2])) :
    AVle (fz k s n' f (if p = j ∧ 10 ≤ q ∧ q < 10 + 1 then [AV.own k 1 1].getD (q - 10) .und else entF (modY lc j y) p q)) (ren σ (entF (modY lc (j + 1) y) p q)) := by
  rw [ren_entF]
  have e1 := modY_get lc j p y hp
  have e2 := modY_get lc (j + 1) p y hp
  by_cases hpj : p = j
  · subst hpj
    rw [if_neg (by omega)] at e1
    rw [if_pos (by omega)] at e2
    have e3 : modE lc p (y.getD p default) = { y.getD p default with data := [2] } := by unfold modE; rw [if_pos ⟨hj, hd⟩]
    rw [e3] at e2
    by_cases hq : q = 10
    · subst hq
      rw [if_pos (by omega)]
      have : entF (modY lc (p + 1) y) p 10 = bs [2] := by unfold entF; rw [e2]; rfl
      rw [this]; exact h0
    · rw [if_neg (by omega), fz_entF]
      refine AVle.of_eq ?_
      unfold entF
      rw [e1, e2]
      exact (entL_data _ [2] q hq).symm
  · rw [if_neg (by omega), fz_entF]
    refine AVle.of_eq (entF_ext _ _ p q ?_)
    rw [e1, e2]
    by_cases hlt : p < j
    · rw [if_pos hlt, if_pos (by omega)]
    · rw [if_neg hlt, if_neg (by omega)]
theorem mod_skip (lc j p q : Nat) (y : List Entry) (hd : ¬ 0 < (y.getD j default).data.length) (hp : p < y.length) : entF (modY lc j y) p q = entF (modY lc (j + 1) y) p q := by
  refine entF_ext _ _ p q ?_
  rw [modY_get lc j p y hp, modY_get lc (j + 1) p y hp]
  by_cases hpj : p = j
  · subst hpj
    rw [if_neg (by omega), if_pos (by omega)]
    unfold modE; rw [if_neg fun h => hd h.2]
  · by_cases hlt : p < j
    · rw [if_pos hlt, if_pos (by omega)]
    · rw [if_neg hlt, if_neg (by omega)]
theorem mod_all (lc j k p q : Nat) (y : List Entry) (hp : p < y.length) (h1 : p < j) (h2 : p < k) : entF (modY lc j y) p q = entF (modY lc k y) p q := by
  refine entF_ext _ _ p q ?_
  rw [modY_get lc j p y hp, modY_get lc k p y hp, if_pos h1, if_pos h2]
theorem mod_none (lc p q : Nat) (y : List Entry) (hp : p < y.length) : entF y p q = entF (modY lc lc y) p q := by
  refine entF_ext _ _ p q ?_
  rw [modY_get lc lc p y hp]
  split
  · rw [modE_lo _ _ _ (by omega)]
  · rfl

theorem AVle_ren {x y : AV} (σ : Nat → Nat) (h : x = y) (hr : ren σ y = y) : AVle x (ren σ y) := by rw [hr, h]; exact AVle.refl _

theorem tmod_pos {x n : Int} (h : 0 ≤ x) : x.tmod n = x % n := Int.tmod_eq_emod_of_nonneg h

theorem urow_step (L : List Int) (i p q : Nat) (x : Int) (hx : L.getD i 0 = x) (hp : p < i + 1) (hq : q < 1) (σ : Nat → Nat) : AVle ((if p < i then uf L p else fun j => [AV.int .u32 x][p - i + j]?.getD .und) q) (ren σ (uf L p q)) := by
  rw [ren_uf]
  split
  · exact AVle.refl _
  · obtain rfl : p = i := by omega
    obtain rfl : q = 0 := by omega
    rw [uf_app, hx]
    simp
theorem uf_le (L M : List Int) (p q : Nat) (h : L.getD p 0 = M.getD p 0) (σ : Nat → Nat) : AVle (uf L p q) (ren σ (uf M p q)) := by
  rw [ren_uf, uf_app, uf_app, h]
  exact AVle.refl _
theorem uf_same (L : List Int) (p q : Nat) (σ : Nat → Nat) : AVle (uf L p q) (ren σ (uf L p q)) := uf_le L L p q rfl σ

theorem bf_app (l : List Int) (i j : Nat) : bf l i j = .int .u8 (l.getD i 0) := rfl
def pcell (c a b : List Int) : AO := .cells 24 [bs c, bs a, bs b]

theorem sRows (c a b : List Int) (hc : bytes c) (ha : bytes a) (hb : bytes b) (hcl : c.length < 9223372036854775808) (hal : a.length < 9223372036854775808) (hbl : b.length < 9223372036854775808) :
    ASpec Go.Proofs.Try.prog 8 [.agg [bs c, bs a, bs b]] [] (fun r h => r = .tup [ents (rowsX c a), ents (rowsY c b), .int .u32 (rowsE c a b)] ∧ h = []) := by
  refine spec8 ?_ (by simp)
  simp (maxSteps := 10000000) (implicitDefEqProofs := false) [c8]
  have nc := nn_le c
  have na := nn_le a
  have nb := nn_le b
  refine AL.loop hmix (D := Nat) (fun i => i ≤ nn c) (fun i => ⟨mkT 144 [(1, .ptr 0 0), (5, .own 1 1 i), (6, .int .u32 (eE c i)), (7, .int .i64 i)], [pcell c a b, urow (lC c) i]⟩) (fun i => nn c - i) 0 (by omega) ?_ ?_
  · refine (Ent.addNil 26 1 (uf (lC c)) (by decide) [5] (by simp [mkT_get])).trans ?_
    exact Ent.map [0, 1] (idn rfl) (by simp) (by simp [pcell, urow]) (by simp [pcell, urow]) (by simp [eE]; exact AVles_mkT (by simp))
  · intro F hF i hi
    by_cases hil : i < nn c
    · have h1 : i < c.length := by omega
      have h2 : (i : Int) < 20 := by omega
      have w1 : IntKind.i64.wrap ((i : Int) + 1) = i + 1 := IntWalk.i64_in _ (by omega)
      have hcb := hc _ (List.getElem_mem h1)
      have he := eE_bd c i
      have hx : IntKind.u32.wrap (eE c i + IntKind.u32.wrap (c[i].tmod 2)) = eE c (i + 1) := by
        rw [tmod_pos hcb.1, IntWalk.u32_in (c[i] % 2) (by omega), IntWalk.u32_in _ (by omega)]
        simp [eE, h1]
      simp (maxSteps := 10000000) (implicitDefEqProofs := false) [pcell, urow, bs, bf_app, h1, h2, w1, hx]
      refine ⟨⟨by omega, by omega⟩, i + 1, by omega, by omega, ?_⟩
      refine Ent.map [0, 3] (idn rfl) (by simp) (by simp) ?_ (by simp; exact AVles_mkT (by simp))
      exact ⟨.inr ⟨_, rfl, rfl, rfl, by simp⟩, .inr ⟨_, rfl, rfl, rfl, rfl, Nat.le_refl _, id, fun p q hp hq => urow_step (lC c) i p q (eE c (i + 1)) (lC_get c i hil) hp hq _⟩, trivial⟩
    · obtain rfl : i = nn c := by omega
      have h3 : nn c < c.length → (20 : Int) ≤ nn c := by unfold nn; omega
      have h4 : (nn c * 4 ≤ 140737488355328) := by omega
      simp (maxSteps := 10000000) (implicitDefEqProofs := false) [pcell, urow, bs, h3, bf_app]
      rw [hF]
      have he := eE_bd c (nn c)
      have hm2 : 0 ≤ eE c (nn c) % 2 ∧ eE c (nn c) % 2 < 2 := by omega
      have hx : IntKind.u32.wrap (IntKind.u32.wrap (eE c (nn c) + 2) - (eE c (nn c)).tmod 2) = sA c := by
        rw [tmod_pos (by omega), IntWalk.u32_in (eE c (nn c) + 2) (by omega), IntWalk.u32_in _ (by omega)]; rfl
      simp (maxSteps := 10000000) (implicitDefEqProofs := false) [hx]
      refine ⟨h3, fun _ => ⟨⟨by omega, by omega, fun i hi => rfl⟩, ?_⟩⟩
      clear hF F
      refine AL.loop hmix (D := Nat) (fun i => i ≤ nn a) (fun i => ⟨mkT 144 [(1, .ptr 0 0), (5, .own 1 1 (nn c + i)), (6, .int .u32 (eC c)), (8, .own 2 1 (nn c)), (9, .int .u32 (eA (sA c) a i)), (10, .int .i64 i)], [pcell c a b, urow (lX c (sA c) a) (nn c + i), urow (lC c) (nn c)]⟩) (fun i => nn a - i) 0 (by omega) ?_ ?_
      · refine Ent.map [0, 1, 2] (idn rfl) (by simp) (by simp [pcell, urow]) ?_ (by simp [eA, eC]; exact AVles_mkT (by simp))
        exact ⟨.inr ⟨_, rfl, rfl, rfl, by simp [bs]⟩, .inr ⟨_, rfl, rfl, rfl, rfl, Nat.le_refl _, id, fun p q hp hq => uf_le _ _ p q (lX_get0 c (sA c) a p hp).symm _⟩, .inr ⟨_, rfl, rfl, rfl, rfl, Nat.le_refl _, id, fun p q hp hq => uf_same _ p q _⟩, trivial⟩
      · intro F hF i hi
        by_cases hil : i < nn a
        · have hx1 : i < a.length := by omega
          have h2 : (i : Int) < 20 := by omega
          have w1 : IntKind.i64.wrap ((i : Int) + 1) = i + 1 := IntWalk.i64_in _ (by omega)
          have hxb := ha _ (List.getElem_mem hx1)
          have hxe := eA_bd (sA c) a i
          have hxs : 0 ≤ sA c ∧ sA c ≤ 100 := by unfold sA eC; omega
          have hw2 : IntKind.u32.wrap (eA (sA c) a i + 2) = eA (sA c) a i + 2 := IntWalk.u32_in _ (by omega)
          have hmod : a[i].tmod 3 = a[i] % 3 := tmod_pos hxb.1
          have hgx : a.getD i 0 = a[i] := by simp [hx1]
          simp (maxSteps := 10000000) (implicitDefEqProofs := false) [pcell, urow, bs, bf_app, hx1, h2, w1, hmod, hw2]
          refine ⟨fun hcnd => ⟨⟨by omega, by omega⟩, i + 1, by omega, by omega, ?_⟩, fun hn0 hn3 => ⟨⟨by omega, by omega⟩, i + 1, by omega, by omega, ?_⟩⟩
          · have hst : eA (sA c) a i + 2 = eA (sA c) a (i + 1) := by
              simp only [eA]; rw [hgx, if_pos hcnd]
            rw [hst]
            refine Ent.map [0, 4, 2] (idn rfl) (by simp) (by simp) ?_ (by simp [Nat.add_assoc]; exact AVles_mkT (by simp [Nat.add_assoc]))
            exact ⟨.inr ⟨_, rfl, rfl, rfl, by simp⟩, .inr ⟨_, rfl, rfl, rfl, rfl, Nat.le_refl _, id, fun p q hp hq => urow_step (lX c (sA c) a) (nn c + i) p q (eA (sA c) a (i + 1)) (lX_get1 c (sA c) a i hil) hp hq _⟩, .inr ⟨_, rfl, rfl, rfl, rfl, Nat.le_refl _, id, fun p q hp hq => uf_same _ p q _⟩, trivial⟩
          · have hst : eA (sA c) a i = eA (sA c) a (i + 1) := by
              simp only [eA]; rw [hgx, if_neg (by omega)]
            rw [hst]
            refine Ent.map [0, 4, 2] (idn rfl) (by simp) (by simp) ?_ (by simp [Nat.add_assoc]; exact AVles_mkT (by simp [Nat.add_assoc]))
            exact ⟨.inr ⟨_, rfl, rfl, rfl, by simp⟩, .inr ⟨_, rfl, rfl, rfl, rfl, Nat.le_refl _, id, fun p q hp hq => urow_step (lX c (sA c) a) (nn c + i) p q (eA (sA c) a (i + 1)) (lX_get1 c (sA c) a i hil) hp hq _⟩, .inr ⟨_, rfl, rfl, rfl, rfl, Nat.le_refl _, id, fun p q hp hq => uf_same _ p q _⟩, trivial⟩
        · obtain rfl : i = nn a := by omega
          have h3' : nn a < a.length → (20 : Int) ≤ nn a := by unfold nn; omega
          simp (maxSteps := 10000000) (implicitDefEqProofs := false) [pcell, urow, bs, h3', bf_app]
          rw [hF]
          have hx3 : IntKind.u32.wrap (IntKind.u32.wrap (eC c + 1) + (eC c).tmod 2) = sB c := by
            have he : 1 ≤ eC c ∧ eC c ≤ 21 := by unfold eC; omega
            rw [tmod_pos (by omega), IntWalk.u32_in (eC c + 1) (by omega), IntWalk.u32_in _ (by omega)]; rfl
          simp (maxSteps := 10000000) (implicitDefEqProofs := false) [hx3]
          refine ⟨fun h1 h2 => absurd (h3' h1) (by omega), fun _ => ?_⟩
          clear hF F
          refine AL.loop hmix (D := Nat) (fun i => i ≤ nn b) (fun i => ⟨mkT 144 [(1, .ptr 0 0), (5, .own 1 1 (nn c + nn a)), (8, .own 2 1 (nn c + i)), (9, .int .u32 (eA (sA c) a (nn a))), (11, .int .u32 (eA (sB c) b i)), (12, .int .i64 i)], [pcell c a b, urow (lX c (sA c) a) (nn c + nn a), urow (lX c (sB c) b) (nn c + i)]⟩) (fun i => nn b - i) 0 (by omega) ?_ ?_
          · refine Ent.map [0, 1, 2] (idn rfl) (by simp) (by simp [pcell, urow]) ?_ (by simp [eA]; exact AVles_mkT (by simp))
            exact ⟨.inr ⟨_, rfl, rfl, rfl, by simp [bs]⟩, .inr ⟨_, rfl, rfl, rfl, rfl, Nat.le_refl _, id, fun p q hp hq => uf_same _ p q _⟩, .inr ⟨_, rfl, rfl, rfl, rfl, Nat.le_refl _, id, fun p q hp hq => uf_le _ _ p q (lX_get0 c (sB c) b p hp).symm _⟩, trivial⟩
          · intro F hF i hi
            by_cases hil : i < nn b
            · have hx1 : i < b.length := by omega
              have h2 : (i : Int) < 20 := by omega
              have w1 : IntKind.i64.wrap ((i : Int) + 1) = i + 1 := IntWalk.i64_in _ (by omega)
              have hxb := hb _ (List.getElem_mem hx1)
              have hxe := eA_bd (sB c) b i
              have hxs : 0 ≤ sB c ∧ sB c ≤ 100 := by unfold sB eC; omega
              have hw2 : IntKind.u32.wrap (eA (sB c) b i + 2) = eA (sB c) b i + 2 := IntWalk.u32_in _ (by omega)
              have hmod : b[i].tmod 3 = b[i] % 3 := tmod_pos hxb.1
              have hgx : b.getD i 0 = b[i] := by simp [hx1]
              simp (maxSteps := 10000000) (implicitDefEqProofs := false) [pcell, urow, bs, bf_app, hx1, h2, w1, hmod, hw2]
              refine ⟨fun hcnd => ⟨⟨by omega, by omega⟩, i + 1, by omega, by omega, ?_⟩, fun hn0 hn3 => ⟨⟨by omega, by omega⟩, i + 1, by omega, by omega, ?_⟩⟩
              · have hst : eA (sB c) b i + 2 = eA (sB c) b (i + 1) := by
                  simp only [eA]; rw [hgx, if_pos hcnd]
                rw [hst]
                refine Ent.map [0, 1, 4] (idn rfl) (by simp) (by simp) ?_ (by simp [Nat.add_assoc]; exact AVles_mkT (by simp [Nat.add_assoc]))
                exact ⟨.inr ⟨_, rfl, rfl, rfl, by simp⟩, .inr ⟨_, rfl, rfl, rfl, rfl, Nat.le_refl _, id, fun p q hp hq => uf_same _ p q _⟩, .inr ⟨_, rfl, rfl, rfl, rfl, Nat.le_refl _, id, fun p q hp hq => urow_step (lX c (sB c) b) (nn c + i) p q (eA (sB c) b (i + 1)) (lX_get1 c (sB c) b i hil) hp hq _⟩, trivial⟩
              · have hst : eA (sB c) b i = eA (sB c) b (i + 1) := by
                  simp only [eA]; rw [hgx, if_neg (by omega)]
                rw [hst]
                refine Ent.map [0, 1, 4] (idn rfl) (by simp) (by simp) ?_ (by simp [Nat.add_assoc]; exact AVles_mkT (by simp [Nat.add_assoc]))
                exact ⟨.inr ⟨_, rfl, rfl, rfl, by simp⟩, .inr ⟨_, rfl, rfl, rfl, rfl, Nat.le_refl _, id, fun p q hp hq => uf_same _ p q _⟩, .inr ⟨_, rfl, rfl, rfl, rfl, Nat.le_refl _, id, fun p q hp hq => urow_step (lX c (sB c) b) (nn c + i) p q (eA (sB c) b (i + 1)) (lX_get1 c (sB c) b i hil) hp hq _⟩, trivial⟩
            · obtain rfl : i = nn b := by omega
              have h3' : nn b < b.length → (20 : Int) ≤ nn b := by unfold nn; omega
              simp (maxSteps := 10000000) (implicitDefEqProofs := false) [pcell, urow, bs, h3', bf_app]
              rw [hF]
              simp (maxSteps := 10000000) (implicitDefEqProofs := false)
              refine ⟨fun h1 h2 => absurd (h3' h1) (by omega), fun _ => ?_⟩
              have hlA : (lX c (sA c) a).length = nn c + nn a := by simp
              have hlB : (lX c (sB c) b).length = nn c + nn b := by simp
              refine AC.det [1] [.own 0 1 (lX c (sA c) a).length, .int .u8 1] (sRowLaw (lX c (sA c) a) 1 (by omega) (by omega)) (by decide) (by simp [urow]) (by simp) (by simp) ?_
              simp (maxSteps := 10000000) (implicitDefEqProofs := false) [urow, erow]
              refine AC.det [2] [.own 0 1 (lX c (sB c) b).length, .int .u8 1] (sRowLaw (lX c (sB c) b) 1 (by omega) (by omega)) (by decide) (by simp [urow]) (by simp) (by simp) ?_
              simp (maxSteps := 10000000) (implicitDefEqProofs := false) [urow, erow]
              clear hF F
              have hY : (rowL (lX c (sB c) b) 1).length = nn c + nn b := by simp
              generalize hy : rowL (lX c (sB c) b) 1 = y at *
              refine AL.loop hmix (D := Nat) (fun j => c.length ≤ j ∧ (j ≤ c.length ∨ j ≤ nn c + nn b)) (fun j => ⟨mkT 144 [(9, .int .u32 (eA (sA c) a (nn a))), (11, .int .u32 (eA (sB c) b (nn b))), (13, .own 0 11 (nn c + nn a)), (14, .own 1 11 (nn c + nn b)), (15, .int .i64 j)], [erow (rowL (lX c (sA c) a) 1) (nn c + nn a), erow (modY c.length j y) (nn c + nn b)]⟩) (fun j => nn c + nn b - j) c.length ⟨Nat.le_refl _, .inl (Nat.le_refl _)⟩ ?_ ?_
              · refine Ent.map [3, 4] (idn rfl) (by simp) (by simp [erow]) ?_ (by simp; exact AVles_mkT (by simp))
                exact ⟨.inr ⟨_, rfl, rfl, rfl, rfl, Nat.le_refl _, id, fun p q hp hq => AVle_ren _ rfl (ren_entF _ _ _ _)⟩, .inr ⟨_, rfl, rfl, rfl, rfl, Nat.le_refl _, id, fun p q hp hq => AVle_ren _ (mod_none c.length p q y (by omega)) (ren_entF _ _ _ _)⟩, trivial⟩
              · intro F hF j ⟨hj, hj2⟩
                by_cases hjl : j < nn c + nn b
                · have h40 : (j : Int) < 40 := by omega
                  have w1 : IntKind.i64.wrap ((j : Int) + 1) = j + 1 := IntWalk.i64_in _ (by omega)
                  have hjc : (j : Int) < (nn c : Int) + nn b := by omega
                  have hdat : entF (modY c.length j y) j 10 = .psl 1 (y.getD j default).data.length (bf (y.getD j default).data) := by
                    unfold entF; rw [modY_get _ _ _ _ (by omega), if_neg (by omega)]; rfl
                  by_cases hd : 0 < (y.getD j default).data.length
                  · generalize hdd : (y.getD j default).data = dd at *
                    simp (maxSteps := 10000000) (implicitDefEqProofs := false) [erow, h40, hjc, hjl, w1, hdat, hd]
                    refine ⟨j + 1, ⟨by omega, by omega⟩, by omega, ?_⟩
                    refine (Ent.frz 2 (T := 5) (s := 1) (n' := 1) (f := fun i j => [AV.int IntKind.u8 2][i + j]?.getD AV.und) rfl).trans ?_
                    refine Ent.map [0, 1] (idn rfl) (by simp) (by simp) ?_ (by simp; exact AVles_mkT (by simp))
                    refine ⟨.inr ⟨_, rfl, rfl, rfl, rfl, Nat.le_refl _, id, fun p q hp hq => AVle_ren _ (fz_entF _ _ _ _ _ _ _) (ren_entF _ _ _ _)⟩, .inr ⟨_, rfl, rfl, rfl, rfl, Nat.le_refl _, id, fun p q hp hq => ?_⟩, trivial⟩
                    exact mod_step c.length j p q y hj (by omega) (by rw [hdd]; exact hd) (by omega) _ 2 1 1 _ (byte_one 2)
                  · generalize hdd : (y.getD j default).data = dd at *
                    simp (maxSteps := 10000000) (implicitDefEqProofs := false) [erow, h40, hjc, hjl, w1, hdat, hd]
                    refine ⟨j + 1, ⟨by omega, by omega⟩, by omega, ?_⟩
                    refine Ent.map [0, 1] (idn rfl) (by simp) (by simp) ?_ (by simp; exact AVles_mkT (by simp))
                    exact ⟨.inr ⟨_, rfl, rfl, rfl, rfl, Nat.le_refl _, id, fun p q hp hq => AVle_ren _ rfl (ren_entF _ _ _ _)⟩, .inr ⟨_, rfl, rfl, rfl, rfl, Nat.le_refl _, id, fun p q hp hq => AVle_ren _ (mod_skip c.length j p q y (by rw [hdd]; exact hd) (by omega)) (ren_entF _ _ _ _)⟩, trivial⟩
                · have hjc : ¬ (j : Int) < (nn c : Int) + nn b := by omega
                  simp (maxSteps := 10000000) (implicitDefEqProofs := false) [erow, hjc]
                  rw [hF]
                  simp (maxSteps := 10000000) (implicitDefEqProofs := false)
                  have hxa := eA_bd (sA c) a (nn a)
                  have hxb := eA_bd (sB c) b (nn b)
                  have hs1 : 0 ≤ sA c ∧ sA c ≤ 100 := by unfold sA eC; omega
                  have hs2 : 0 ≤ sB c ∧ sB c ≤ 100 := by unfold sB eC; omega
                  have hwr : IntKind.u32.wrap ((if eA (sA c) a (nn a) < eA (sB c) b (nn b) then eA (sB c) b (nn b) else eA (sA c) a (nn a)) + 1) = rowsE c a b := by
                    unfold rowsE
                    split
                    · rw [IntWalk.u32_in _ (by omega)]; omega
                    · rw [IntWalk.u32_in _ (by omega)]; omega
                  rw [hwr]
                  have hX : rowsX c a = rowL (lX c (sA c) a) 1 := rfl
                  have hYY : rowsY c b = modY c.length 40 y := by unfold rowsY; rw [hy]
                  refine (Ent.frz 0 (T := 69) (s := 11) (n' := nn c + nn a) (f := entF (rowL (lX c (sA c) a) 1)) rfl).trans ?_
                  refine (Ent.frz 1 (T := 69) (s := 11) (n' := nn c + nn b) (f := fun i j' => fz 0 11 (nn c + nn a) (entF (rowL (lX c (sA c) a) 1)) (entF (modY c.length j y) i j')) rfl).trans ?_
                  refine Ent.map [] (idn rfl) (by simp) (by simp) (by simp) ?_
                  simp
                  refine AVle.tup ⟨?_, ?_, AVle.refl _, trivial⟩
                  · exact AVle.psl (by rw [hX]; simp) fun p q hp hq => AVle.refl _
                  · refine AVle.psl (by rw [hYY, modY_len]; omega) fun p q hp hq => ?_
                    rw [hYY]
                    exact AVle.of_eq (mod_all c.length j 40 p q y (by omega) (by omega) (by omega))
end Go.AM.S
