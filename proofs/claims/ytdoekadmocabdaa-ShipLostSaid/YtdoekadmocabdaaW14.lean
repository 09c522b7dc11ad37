/- A part of the proof: lemmas. -/
import Derived.Test.YtdoekadmocabdaaW13
set_option linter.unusedVariables false
set_option linter.unusedSimpArgs false
set_option linter.unusedSectionVars false
set_option maxRecDepth 100000
set_option maxHeartbeats 4000000
namespace Go.AM.S
open Go Go.AM

theorem RowOk.small {l : List Entry} (h : RowOk l) : ∀ e, e ∈ l → e.key.length < 1000 ∧ e.data.length < 1000 := by
  intro e he
  rcases (h.all e he).kinds with ⟨_, _, h1, h2⟩ | ⟨_, _, _, _, h1, h2, _⟩
  · rw [h1, h2]; exact ⟨by decide, by decide⟩
  · exact ⟨by omega, by omega⟩

/-- An own row is told as one that is only read. -/
theorem ent_erow {K : Nat} {t : List AV} {h : List AO} (k : Nat) (l : List Entry) (hk : h[k]? = some (erow l l.length)) : Ent K ⟨t, h⟩ ⟨fzL k 11 l.length (entF l) t, (h.map (fzO k 11 l.length (entF l))).set k .dead⟩ :=
  Ent.frz (st := ⟨t, h⟩) k (T := 69) hk

def snocF (l : List Entry) (e : Entry) (k : Nat) : Nat → Nat → AV := fun i => if i < k then entF l i else fun j => (entL e)[(i - k) * 11 + j]?.getD .und
@[simp] theorem ren_entLq (σ : Nat → Nat) (e : Entry) (q : Nat) : ren σ ((entL e)[q]?.getD .und) = (entL e)[q]?.getD .und := by
  unfold entL
  rcases q with _ | _ | _ | _ | _ | _ | _ | _ | _ | _ | _ | j <;> simp
@[simp] theorem ren_snocF (σ : Nat → Nat) (l : List Entry) (e : Entry) (k i j : Nat) : ren σ (snocF l e k i j) = snocF l e k i j := by
  unfold snocF
  split <;> simp
theorem snocF_eq (l : List Entry) (e : Entry) (k p q : Nat) (hk : k ≤ l.length) (hp : p < k + 1) : snocF l e k p q = entF (l.take k ++ [e]) p q := by
  have hlt : (l.take k).length = k := by simp; omega
  unfold snocF
  split
  · rename_i h
    have e1 : (l.take k ++ [e]).getD p default = l.getD p default := by
      rw [List.getD_eq_getElem?_getD, List.getElem?_append_left (by omega), List.getElem?_take_of_lt h, ← List.getD_eq_getElem?_getD]
    unfold entF; rw [e1]
  · obtain rfl : p = k := by omega
    have e1 : (l.take p ++ [e]).getD p default = e := by
      rw [List.getD_eq_getElem?_getD, List.getElem?_append_right (by omega), hlt]; simp
    unfold entF; rw [e1]; simp
theorem AOles_snoc (l : List Entry) (e : Entry) (k : Nat) (hk : k ≤ l.length) : AOles [.row 69 11 (k + 1) (snocF l e k)] [erow (l.take k ++ [e]) (l.take k ++ [e]).length] := by
  have hlt : (l.take k ++ [e]).length = k + 1 := by simp; omega
  rw [hlt]
  refine ⟨⟨rfl, rfl, rfl, Nat.le_refl _, id, fun i j hi hj => AVle.of_eq (snocF_eq l e k i j hk hi)⟩, trivial⟩

theorem AOles_snocEnd (l : List Entry) (e : Entry) : AOles [.row 69 11 (l.length + 1) (snocF l e l.length)] [erow (l ++ [e]) (l ++ [e]).length] := by
  have := AOles_snoc l e l.length (Nat.le_refl _)
  rwa [List.take_length] at this

def noteBack (ep lsn : Int) : Note := { kind := 3, epoch := ep, lsn := lsn }
def noteAck (ep lsn : Int) : Note := { kind := 2, epoch := ep, lsn := lsn }
def noteStale (ep : Int) : Note := { kind := 6, epoch := ep, code := 3 }

section
variable (l : List Entry) (h : RowOk l) (hl : l.length < 900) (sn ep old lsn : Int) (e : Entry) (hs : ShipOk ep old lsn e) (hf1 : firstL l < 18446744073709551616)
include h hl hs hf1

theorem sTake1 (hc : ep < sn) : ASpec Go.Proofs.Try.prog 11 [ents l, .int .u32 sn, noteA (shipN ep old lsn (enc e))] [] (fun r h => r = .tup [ents l, .int .u32 sn, noteA (noteStale sn), .int .i64 0] ∧ h = []) := by
  refine spec11 ?_ (by simp)
  have hf := first_pos h
  have hv := hs.v
  have g0 := hv.l0
  have g1 := hv.l1
  have g2 := hs.l
  simp (maxSteps := 10000000) (implicitDefEqProofs := false) [c11, ents, noteA, noteL, shipN]
  refine AC.plain [noteA (shipN ep old lsn (enc e))] (sShipped _ _ _ _ hs) (by simp [noteA, noteL, shipN]) ?_
  simp (maxSteps := 10000000) (implicitDefEqProofs := false) [ent, entL]
  refine AC.plain [ents l] (sShipRow l h (by omega)) (by simp [ents]) ?_
  simp (maxSteps := 10000000) (implicitDefEqProofs := false) [hc]
  refine AC.det [] [ents l] (sOwn l (by omega) h.small) (by decide) (by simp) (by simp [ents]) (by simp) ?_
  simp (maxSteps := 10000000) (implicitDefEqProofs := false) [erow]
  refine (Ent.frz 3 (T := 69) (s := 11) (n' := l.length) (f := entF l) rfl).trans ?_
  exact Ent.map [] (idn rfl) (by simp) (by simp) (by simp) (by simp [noteStale]; exact AVle.tup (by simp; exact AVle.agg (by simp)))

theorem sTake2 (hc : ¬ ep < sn) (hc2 : lastL l < lsn) : ASpec Go.Proofs.Try.prog 11 [ents l, .int .u32 sn, noteA (shipN ep old lsn (enc e))] [] (fun r h => r = .tup [ents l, .int .u32 ep, noteA (noteBack ep (lastL l)), .int .i64 0] ∧ h = []) := by
  refine spec11 ?_ (by simp)
  have hf := first_pos h
  have hv := hs.v
  have g0 := hv.l0
  have g1 := hv.l1
  have g2 := hs.l
  simp (maxSteps := 10000000) (implicitDefEqProofs := false) [c11, ents, noteA, noteL, shipN]
  refine AC.plain [noteA (shipN ep old lsn (enc e))] (sShipped _ _ _ _ hs) (by simp [noteA, noteL, shipN]) ?_
  simp (maxSteps := 10000000) (implicitDefEqProofs := false) [ent, entL]
  refine AC.plain [ents l] (sShipRow l h (by omega)) (by simp [ents]) ?_
  simp (maxSteps := 10000000) (implicitDefEqProofs := false) [hc]
  refine AC.plain [ents l] (sLast l (by omega)) (by simp [ents]) ?_
  simp (maxSteps := 10000000) (implicitDefEqProofs := false) [hc2]
  refine AC.det [] [ents l] (sOwn l (by omega) h.small) (by decide) (by simp) (by simp [ents]) (by simp) ?_
  simp (maxSteps := 10000000) (implicitDefEqProofs := false) [erow]
  refine AC.plain [ents l] (sLast l (by omega)) (by simp [ents]) ?_
  simp (maxSteps := 10000000) (implicitDefEqProofs := false)
  refine (Ent.frz 3 (T := 69) (s := 11) (n' := l.length) (f := entF l) rfl).trans ?_
  exact Ent.map [] (idn rfl) (by simp) (by simp) (by simp) (by simp [noteBack]; exact AVle.tup (by simp; exact AVle.agg (by simp)))

theorem sTake3 (hc : ¬ ep < sn) (hc2 : ¬ lastL l < lsn) (hc3 : lsn < firstL l - 1) : ASpec Go.Proofs.Try.prog 11 [ents l, .int .u32 sn, noteA (shipN ep old lsn (enc e))] [] (fun r h => r = .tup [ents l, .int .u32 ep, noteA (noteAck ep (firstL l - 1)), .int .i64 0] ∧ h = []) := by
  refine spec11 ?_ (by simp)
  have hf := first_pos h
  have hv := hs.v
  have g0 := hv.l0
  have g1 := hv.l1
  have g2 := hs.l
  simp (maxSteps := 10000000) (implicitDefEqProofs := false) [c11, ents, noteA, noteL, shipN]
  refine AC.plain [noteA (shipN ep old lsn (enc e))] (sShipped _ _ _ _ hs) (by simp [noteA, noteL, shipN]) ?_
  simp (maxSteps := 10000000) (implicitDefEqProofs := false) [ent, entL]
  refine AC.plain [ents l] (sShipRow l h (by omega)) (by simp [ents]) ?_
  have w1 : IntKind.u64.wrap (firstL l - 1) = firstL l - 1 := IntWalk.u64_in _ (by have := hf1; omega)
  simp (maxSteps := 10000000) (implicitDefEqProofs := false) [hc]
  refine AC.plain [ents l] (sLast l (by omega)) (by simp [ents]) ?_
  simp (maxSteps := 10000000) (implicitDefEqProofs := false) [hc2]
  refine AC.plain [ents l] (sFirst l) (by simp [ents]) ?_
  simp (maxSteps := 10000000) (implicitDefEqProofs := false) [w1, hc3]
  refine AC.det [] [ents l] (sOwn l (by omega) h.small) (by decide) (by simp) (by simp [ents]) (by simp) ?_
  simp (maxSteps := 10000000) (implicitDefEqProofs := false) [erow]
  refine AC.plain [ents l] (sFirst l) (by simp [ents]) ?_
  simp (maxSteps := 10000000) (implicitDefEqProofs := false) [w1]
  refine (Ent.frz 3 (T := 69) (s := 11) (n' := l.length) (f := entF l) rfl).trans ?_
  exact Ent.map [] (idn rfl) (by simp) (by simp) (by simp) (by simp [noteAck]; exact AVle.tup (by simp; exact AVle.agg (by simp)))

theorem sTake4 (hc : ¬ ep < sn) (hc2 : ¬ lastL l < lsn) (hc4 : firstL l ≤ lsn) (i : Nat) (hi : i < l.length) (hil : lsn = firstL l + i) (hat : ¬ (l.getD i default).epoch = old) : ASpec Go.Proofs.Try.prog 11 [ents l, .int .u32 sn, noteA (shipN ep old lsn (enc e))] [] (fun r h => r = .tup [ents l, .int .u32 ep, noteA (noteBack ep (behindL l old lsn)), .int .i64 0] ∧ h = []) := by
  refine spec11 ?_ (by simp)
  have hf := first_pos h
  have hv := hs.v
  have g0 := hv.l0
  have g1 := hv.l1
  have g2 := hs.l
  simp (maxSteps := 10000000) (implicitDefEqProofs := false) [c11, ents, noteA, noteL, shipN]
  refine AC.plain [noteA (shipN ep old lsn (enc e))] (sShipped _ _ _ _ hs) (by simp [noteA, noteL, shipN]) ?_
  simp (maxSteps := 10000000) (implicitDefEqProofs := false) [ent, entL]
  refine AC.plain [ents l] (sShipRow l h (by omega)) (by simp [ents]) ?_
  have w1 : IntKind.u64.wrap (firstL l - 1) = firstL l - 1 := IntWalk.u64_in _ (by have := hf1; omega)
  have hc3 : ¬ lsn < firstL l - 1 := by omega
  simp (maxSteps := 10000000) (implicitDefEqProofs := false) [hc]
  refine AC.plain [ents l] (sLast l (by omega)) (by simp [ents]) ?_
  simp (maxSteps := 10000000) (implicitDefEqProofs := false) [hc2]
  refine AC.plain [ents l] (sFirst l) (by simp [ents]) ?_
  simp (maxSteps := 10000000) (implicitDefEqProofs := false) [w1, hc3]
  refine AC.plain [ents l] (sFirst l) (by simp [ents]) ?_
  simp (maxSteps := 10000000) (implicitDefEqProofs := false) [hc4]
  refine AC.plain [ents l, .int .u64 lsn] (sAt l i lsn hi (by omega) hil (by omega) (by omega)) (by simp [ents]) ?_
  generalize (l.getD i default).epoch = q at *
  simp (maxSteps := 10000000) (implicitDefEqProofs := false) [hat]
  refine AC.det [] [ents l] (sOwn l (by omega) h.small) (by decide) (by simp) (by simp [ents]) (by simp) ?_
  simp (maxSteps := 10000000) (implicitDefEqProofs := false) [erow]
  refine AC.plain [ents l, noteA (shipN ep old lsn (enc e))] (sBehind l (shipN ep old lsn (enc e)) (by omega) hf hc4 (by show lsn ≤ _; omega) (by show lsn < _; omega)) (by simp [ents, noteA, noteL, shipN]) ?_
  simp (maxSteps := 10000000) (implicitDefEqProofs := false) [shipN]
  refine (Ent.frz 3 (T := 69) (s := 11) (n' := l.length) (f := entF l) rfl).trans ?_
  exact Ent.map [] (idn rfl) (by simp) (by simp) (by simp) (by simp [noteBack]; exact AVle.tup (by simp; exact AVle.agg (by simp)))

theorem sTake5a (hc : ¬ ep < sn) (hc2 : ¬ lastL l < lsn) (k : Nat) (hk : k ≤ l.length) (hkl : lsn = firstL l - 1 + k) (hk0 : k = 0) (hkk : k < l.length) (hsame : enc (l.getD k default) = enc e) : ASpec Go.Proofs.Try.prog 11 [ents l, .int .u32 sn, noteA (shipN ep old lsn (enc e))] [] (fun r h => r = .tup [ents l, .int .u32 ep, noteA (noteAck ep e.lsn), .int .i64 0] ∧ h = []) := by
  refine spec11 ?_ (by simp)
  have hf := first_pos h
  have hv := hs.v
  have g0 := hv.l0
  have g1 := hv.l1
  have g2 := hs.l
  simp (maxSteps := 10000000) (implicitDefEqProofs := false) [c11, ents, noteA, noteL, shipN]
  refine AC.plain [noteA (shipN ep old lsn (enc e))] (sShipped _ _ _ _ hs) (by simp [noteA, noteL, shipN]) ?_
  simp (maxSteps := 10000000) (implicitDefEqProofs := false) [ent, entL]
  refine AC.plain [ents l] (sShipRow l h (by omega)) (by simp [ents]) ?_
  have w1 : IntKind.u64.wrap (firstL l - 1) = firstL l - 1 := IntWalk.u64_in _ (by have := hf1; omega)
  have hc3 : ¬ lsn < firstL l - 1 := by omega
  simp (maxSteps := 10000000) (implicitDefEqProofs := false) [hc]
  refine AC.plain [ents l] (sLast l (by omega)) (by simp [ents]) ?_
  simp (maxSteps := 10000000) (implicitDefEqProofs := false) [hc2]
  refine AC.plain [ents l] (sFirst l) (by simp [ents]) ?_
  simp (maxSteps := 10000000) (implicitDefEqProofs := false) [w1, hc3]
  refine AC.plain [ents l] (sFirst l) (by simp [ents]) ?_
  have hc4 : ¬ firstL l ≤ lsn := by omega
  simp (maxSteps := 10000000) (implicitDefEqProofs := false) [hc4]
  refine AC.plain [ents l] (sFirst l) (by simp [ents]) ?_
  have w2 : IntKind.u64.wrap (lsn - (firstL l - 1)) = k := by rw [IntWalk.u64_in _ (by omega)]; omega
  have w3 : IntKind.i64.wrap (k : Int) = k := IntWalk.i64_in _ (by omega)
  simp (maxSteps := 10000000) (implicitDefEqProofs := false) [w1, w2, w3]
  refine AC.det [] [ents l] (sOwn l (by omega) h.small) (by decide) (by simp) (by simp [ents]) (by simp) ?_
  have hkn : ¬ (k : Int) = l.length := by omega
  have hgk : l.getD k default = l[k] := by simp [hkk]
  have hvk : Valid l[k] := h.all _ (List.getElem_mem hkk)
  rw [hgk] at hsame
  simp (maxSteps := 10000000) (implicitDefEqProofs := false) [hkn, hkk, erow, entL]
  refine AC.plain [ent l[k], noteA (shipN ep old lsn (enc e))] (sSame46 l[k] (shipN ep old lsn (enc e)) hvk (enc_bytes e hv) (by have := enc_len e hv; show (enc e).length < 1000; omega)) (by simp [ent, entL, noteA, noteL, shipN]) ?_
  have hd : enc l[k] = (shipN ep old lsn (enc e)).data := hsame
  simp (maxSteps := 10000000) (implicitDefEqProofs := false) [hd]
  refine (Ent.frz 3 (T := 69) (s := 11) (n' := l.length) (f := entF l) rfl).trans ?_
  exact Ent.map [] (idn rfl) (by simp) (by simp) (by simp) (by simp [noteAck]; exact AVle.tup (by simp; exact AVle.agg (by simp)))

theorem sTake5b (hc : ¬ ep < sn) (hc2 : ¬ lastL l < lsn) (k : Nat) (hk : k ≤ l.length) (hkl : lsn = firstL l - 1 + k) (i : Nat) (hi : k = i + 1) (hat : (l.getD i default).epoch = old) (hkk : k < l.length) (hsame : enc (l.getD k default) = enc e) : ASpec Go.Proofs.Try.prog 11 [ents l, .int .u32 sn, noteA (shipN ep old lsn (enc e))] [] (fun r h => r = .tup [ents l, .int .u32 ep, noteA (noteAck ep e.lsn), .int .i64 0] ∧ h = []) := by
  refine spec11 ?_ (by simp)
  have hf := first_pos h
  have hv := hs.v
  have g0 := hv.l0
  have g1 := hv.l1
  have g2 := hs.l
  simp (maxSteps := 10000000) (implicitDefEqProofs := false) [c11, ents, noteA, noteL, shipN]
  refine AC.plain [noteA (shipN ep old lsn (enc e))] (sShipped _ _ _ _ hs) (by simp [noteA, noteL, shipN]) ?_
  simp (maxSteps := 10000000) (implicitDefEqProofs := false) [ent, entL]
  refine AC.plain [ents l] (sShipRow l h (by omega)) (by simp [ents]) ?_
  have w1 : IntKind.u64.wrap (firstL l - 1) = firstL l - 1 := IntWalk.u64_in _ (by have := hf1; omega)
  have hc3 : ¬ lsn < firstL l - 1 := by omega
  simp (maxSteps := 10000000) (implicitDefEqProofs := false) [hc]
  refine AC.plain [ents l] (sLast l (by omega)) (by simp [ents]) ?_
  simp (maxSteps := 10000000) (implicitDefEqProofs := false) [hc2]
  refine AC.plain [ents l] (sFirst l) (by simp [ents]) ?_
  simp (maxSteps := 10000000) (implicitDefEqProofs := false) [w1, hc3]
  refine AC.plain [ents l] (sFirst l) (by simp [ents]) ?_
  have hc4 : firstL l ≤ lsn := by omega
  simp (maxSteps := 10000000) (implicitDefEqProofs := false) [hc4]
  refine AC.plain [ents l, .int .u64 lsn] (sAt l i lsn (by omega) (by omega) (by omega) (by omega) (by omega)) (by simp [ents]) ?_
  rw [hat]
  simp (maxSteps := 10000000) (implicitDefEqProofs := false)
  refine AC.plain [ents l] (sFirst l) (by simp [ents]) ?_
  have w2 : IntKind.u64.wrap (lsn - (firstL l - 1)) = k := by rw [IntWalk.u64_in _ (by omega)]; omega
  have w3 : IntKind.i64.wrap (k : Int) = k := IntWalk.i64_in _ (by omega)
  simp (maxSteps := 10000000) (implicitDefEqProofs := false) [w1, w2, w3]
  refine AC.det [] [ents l] (sOwn l (by omega) h.small) (by decide) (by simp) (by simp [ents]) (by simp) ?_
  have hkn : ¬ (k : Int) = l.length := by omega
  have hgk : l.getD k default = l[k] := by simp [hkk]
  have hvk : Valid l[k] := h.all _ (List.getElem_mem hkk)
  rw [hgk] at hsame
  simp (maxSteps := 10000000) (implicitDefEqProofs := false) [hkn, hkk, erow, entL]
  refine AC.plain [ent l[k], noteA (shipN ep old lsn (enc e))] (sSame46 l[k] (shipN ep old lsn (enc e)) hvk (enc_bytes e hv) (by have := enc_len e hv; show (enc e).length < 1000; omega)) (by simp [ent, entL, noteA, noteL, shipN]) ?_
  have hd : enc l[k] = (shipN ep old lsn (enc e)).data := hsame
  simp (maxSteps := 10000000) (implicitDefEqProofs := false) [hd]
  refine (Ent.frz 3 (T := 69) (s := 11) (n' := l.length) (f := entF l) rfl).trans ?_
  exact Ent.map [] (idn rfl) (by simp) (by simp) (by simp) (by simp [noteAck]; exact AVle.tup (by simp; exact AVle.agg (by simp)))

theorem sTake6a (hc : ¬ ep < sn) (hc2 : ¬ lastL l < lsn) (k : Nat) (hk : k ≤ l.length) (hkl : lsn = firstL l - 1 + k) (hk0 : k = 0) (hkk : k < l.length) (hsame : ¬ enc (l.getD k default) = enc e) (hrow : RowOk (l.take k ++ [e])) : ASpec Go.Proofs.Try.prog 11 [ents l, .int .u32 sn, noteA (shipN ep old lsn (enc e))] [] (fun r h => r = .tup [ents (l.take k ++ [e]), .int .u32 ep, noteA (noteAck ep e.lsn), .int .i64 0] ∧ h = []) := by
  refine spec11 ?_ (by simp)
  have hf := first_pos h
  have hv := hs.v
  have g0 := hv.l0
  have g1 := hv.l1
  have g2 := hs.l
  simp (maxSteps := 10000000) (implicitDefEqProofs := false) [c11, ents, noteA, noteL, shipN]
  refine AC.plain [noteA (shipN ep old lsn (enc e))] (sShipped _ _ _ _ hs) (by simp [noteA, noteL, shipN]) ?_
  simp (maxSteps := 10000000) (implicitDefEqProofs := false) [ent, entL]
  refine AC.plain [ents l] (sShipRow l h (by omega)) (by simp [ents]) ?_
  have w1 : IntKind.u64.wrap (firstL l - 1) = firstL l - 1 := IntWalk.u64_in _ (by have := hf1; omega)
  have hc3 : ¬ lsn < firstL l - 1 := by omega
  simp (maxSteps := 10000000) (implicitDefEqProofs := false) [hc]
  refine AC.plain [ents l] (sLast l (by omega)) (by simp [ents]) ?_
  simp (maxSteps := 10000000) (implicitDefEqProofs := false) [hc2]
  refine AC.plain [ents l] (sFirst l) (by simp [ents]) ?_
  simp (maxSteps := 10000000) (implicitDefEqProofs := false) [w1, hc3]
  refine AC.plain [ents l] (sFirst l) (by simp [ents]) ?_
  have hc4 : ¬ firstL l ≤ lsn := by omega
  simp (maxSteps := 10000000) (implicitDefEqProofs := false) [hc4]
  refine AC.plain [ents l] (sFirst l) (by simp [ents]) ?_
  have w2 : IntKind.u64.wrap (lsn - (firstL l - 1)) = k := by rw [IntWalk.u64_in _ (by omega)]; omega
  have w3 : IntKind.i64.wrap (k : Int) = k := IntWalk.i64_in _ (by omega)
  simp (maxSteps := 10000000) (implicitDefEqProofs := false) [w1, w2, w3]
  refine AC.det [] [ents l] (sOwn l (by omega) h.small) (by decide) (by simp) (by simp [ents]) (by simp) ?_
  have hkn : ¬ (k : Int) = l.length := by omega
  have hgk : l.getD k default = l[k] := by simp [hkk]
  have hvk : Valid l[k] := h.all _ (List.getElem_mem hkk)
  rw [hgk] at hsame
  simp (maxSteps := 10000000) (implicitDefEqProofs := false) [hkn, hkk, erow, entL]
  refine AC.plain [ent l[k], noteA (shipN ep old lsn (enc e))] (sSame46 l[k] (shipN ep old lsn (enc e)) hvk (enc_bytes e hv) (by have := enc_len e hv; show (enc e).length < 1000; omega)) (by simp [ent, entL, noteA, noteL, shipN]) ?_
  have hd : ¬ enc l[k] = (shipN ep old lsn (enc e)).data := hsame
  simp (maxSteps := 10000000) (implicitDefEqProofs := false) [hd]
  have hlt : (l.take k).length = k := by simp; omega
  have hmin : min k l.length = k := by omega
  have hsn := AOles_snoc l e k (by omega)
  refine ⟨by omega, ⟨by omega, by omega, by omega, fun p q hp hq => entL_one e p q hp hq⟩, ?_⟩
  refine AC.det [5] [.own 0 11 (l.take k ++ [e]).length] ((sShipRowOwn (l.take k ++ [e]) hrow (by simp; omega)).pre hsn) (by decide) (by simp; rfl) (by simp [hlt]) (by simp) ?_
  simp (maxSteps := 10000000) (implicitDefEqProofs := false) [erow, hmin]
  refine (Ent.frz 5 (T := 69) (s := 11) (n' := k + 1) (f := entF (l.take k ++ [e])) rfl).trans ?_
  exact Ent.map [] (idn rfl) (by simp) (by simp) (by simp) (by simp [noteAck]; exact AVle.tup (by simp; exact AVle.agg (by simp)))

theorem sTake7a (hc : ¬ ep < sn) (hc2 : ¬ lastL l < lsn) (hkl : lsn = firstL l - 1 + l.length) (hk0 : l.length = 0) (hrow : RowOk (l ++ [e])) : ASpec Go.Proofs.Try.prog 11 [ents l, .int .u32 sn, noteA (shipN ep old lsn (enc e))] [] (fun r h => r = .tup [ents (l ++ [e]), .int .u32 ep, noteA (noteAck ep e.lsn), .int .i64 0] ∧ h = []) := by
  refine spec11 ?_ (by simp)
  have hf := first_pos h
  have hv := hs.v
  have g0 := hv.l0
  have g1 := hv.l1
  have g2 := hs.l
  simp (maxSteps := 10000000) (implicitDefEqProofs := false) [c11, ents, noteA, noteL, shipN]
  refine AC.plain [noteA (shipN ep old lsn (enc e))] (sShipped _ _ _ _ hs) (by simp [noteA, noteL, shipN]) ?_
  simp (maxSteps := 10000000) (implicitDefEqProofs := false) [ent, entL]
  refine AC.plain [ents l] (sShipRow l h (by omega)) (by simp [ents]) ?_
  have w1 : IntKind.u64.wrap (firstL l - 1) = firstL l - 1 := IntWalk.u64_in _ (by have := hf1; omega)
  have hc3 : ¬ lsn < firstL l - 1 := by omega
  simp (maxSteps := 10000000) (implicitDefEqProofs := false) [hc]
  refine AC.plain [ents l] (sLast l (by omega)) (by simp [ents]) ?_
  simp (maxSteps := 10000000) (implicitDefEqProofs := false) [hc2]
  refine AC.plain [ents l] (sFirst l) (by simp [ents]) ?_
  simp (maxSteps := 10000000) (implicitDefEqProofs := false) [w1, hc3]
  refine AC.plain [ents l] (sFirst l) (by simp [ents]) ?_
  have hc4 : ¬ firstL l ≤ lsn := by omega
  simp (maxSteps := 10000000) (implicitDefEqProofs := false) [hc4]
  refine AC.plain [ents l] (sFirst l) (by simp [ents]) ?_
  have w2 : IntKind.u64.wrap (lsn - (firstL l - 1)) = l.length := by rw [IntWalk.u64_in _ (by omega)]; omega
  have w3 : IntKind.i64.wrap (l.length : Int) = l.length := IntWalk.i64_in _ (by omega)
  simp (maxSteps := 10000000) (implicitDefEqProofs := false) [w1, w2, w3]
  refine AC.det [] [ents l] (sOwn l (by omega) h.small) (by decide) (by simp) (by simp [ents]) (by simp) ?_
  simp (maxSteps := 10000000) (implicitDefEqProofs := false) [ erow, entL]
  have hlt : l.length = l.length := rfl
  have hsn := AOles_snocEnd l e
  refine ⟨⟨by omega, by omega, fun p q hp hq => entL_one e p q hp hq⟩, ?_⟩
  refine AC.det [5] [.own 0 11 (l ++ [e]).length] ((sShipRowOwn (l ++ [e]) hrow (by simp; omega)).pre hsn) (by decide) (by simp; rfl) (by simp ) (by simp) ?_
  simp (maxSteps := 10000000) (implicitDefEqProofs := false) [erow]
  refine (Ent.frz 5 (T := 69) (s := 11) (n' := l.length + 1) (f := entF (l ++ [e])) rfl).trans ?_
  exact Ent.map [] (idn rfl) (by simp) (by simp) (by simp) (by simp [noteAck]; exact AVle.tup (by simp; exact AVle.agg (by simp)))

theorem sTake6b (hc : ¬ ep < sn) (hc2 : ¬ lastL l < lsn) (k : Nat) (hk : k ≤ l.length) (hkl : lsn = firstL l - 1 + k) (i : Nat) (hi : k = i + 1) (hat : (l.getD i default).epoch = old) (hkk : k < l.length) (hsame : ¬ enc (l.getD k default) = enc e) (hrow : RowOk (l.take k ++ [e])) : ASpec Go.Proofs.Try.prog 11 [ents l, .int .u32 sn, noteA (shipN ep old lsn (enc e))] [] (fun r h => r = .tup [ents (l.take k ++ [e]), .int .u32 ep, noteA (noteAck ep e.lsn), .int .i64 0] ∧ h = []) := by
  refine spec11 ?_ (by simp)
  have hf := first_pos h
  have hv := hs.v
  have g0 := hv.l0
  have g1 := hv.l1
  have g2 := hs.l
  simp (maxSteps := 10000000) (implicitDefEqProofs := false) [c11, ents, noteA, noteL, shipN]
  refine AC.plain [noteA (shipN ep old lsn (enc e))] (sShipped _ _ _ _ hs) (by simp [noteA, noteL, shipN]) ?_
  simp (maxSteps := 10000000) (implicitDefEqProofs := false) [ent, entL]
  refine AC.plain [ents l] (sShipRow l h (by omega)) (by simp [ents]) ?_
  have w1 : IntKind.u64.wrap (firstL l - 1) = firstL l - 1 := IntWalk.u64_in _ (by have := hf1; omega)
  have hc3 : ¬ lsn < firstL l - 1 := by omega
  simp (maxSteps := 10000000) (implicitDefEqProofs := false) [hc]
  refine AC.plain [ents l] (sLast l (by omega)) (by simp [ents]) ?_
  simp (maxSteps := 10000000) (implicitDefEqProofs := false) [hc2]
  refine AC.plain [ents l] (sFirst l) (by simp [ents]) ?_
  simp (maxSteps := 10000000) (implicitDefEqProofs := false) [w1, hc3]
  refine AC.plain [ents l] (sFirst l) (by simp [ents]) ?_
  have hc4 : firstL l ≤ lsn := by omega
  simp (maxSteps := 10000000) (implicitDefEqProofs := false) [hc4]
  refine AC.plain [ents l, .int .u64 lsn] (sAt l i lsn (by omega) (by omega) (by omega) (by omega) (by omega)) (by simp [ents]) ?_
  rw [hat]
  simp (maxSteps := 10000000) (implicitDefEqProofs := false)
  refine AC.plain [ents l] (sFirst l) (by simp [ents]) ?_
  have w2 : IntKind.u64.wrap (lsn - (firstL l - 1)) = k := by rw [IntWalk.u64_in _ (by omega)]; omega
  have w3 : IntKind.i64.wrap (k : Int) = k := IntWalk.i64_in _ (by omega)
  simp (maxSteps := 10000000) (implicitDefEqProofs := false) [w1, w2, w3]
  refine AC.det [] [ents l] (sOwn l (by omega) h.small) (by decide) (by simp) (by simp [ents]) (by simp) ?_
  have hkn : ¬ (k : Int) = l.length := by omega
  have hgk : l.getD k default = l[k] := by simp [hkk]
  have hvk : Valid l[k] := h.all _ (List.getElem_mem hkk)
  rw [hgk] at hsame
  simp (maxSteps := 10000000) (implicitDefEqProofs := false) [hkn, hkk, erow, entL]
  refine AC.plain [ent l[k], noteA (shipN ep old lsn (enc e))] (sSame46 l[k] (shipN ep old lsn (enc e)) hvk (enc_bytes e hv) (by have := enc_len e hv; show (enc e).length < 1000; omega)) (by simp [ent, entL, noteA, noteL, shipN]) ?_
  have hd : ¬ enc l[k] = (shipN ep old lsn (enc e)).data := hsame
  simp (maxSteps := 10000000) (implicitDefEqProofs := false) [hd]
  have hlt : (l.take k).length = k := by simp; omega
  have hmin : min k l.length = k := by omega
  have hsn := AOles_snoc l e k (by omega)
  refine ⟨by omega, ⟨by omega, by omega, by omega, fun p q hp hq => entL_one e p q hp hq⟩, ?_⟩
  refine AC.det [5] [.own 0 11 (l.take k ++ [e]).length] ((sShipRowOwn (l.take k ++ [e]) hrow (by simp; omega)).pre hsn) (by decide) (by simp; rfl) (by simp [hlt]) (by simp) ?_
  simp (maxSteps := 10000000) (implicitDefEqProofs := false) [erow, hmin]
  refine (Ent.frz 5 (T := 69) (s := 11) (n' := k + 1) (f := entF (l.take k ++ [e])) rfl).trans ?_
  exact Ent.map [] (idn rfl) (by simp) (by simp) (by simp) (by simp [noteAck]; exact AVle.tup (by simp; exact AVle.agg (by simp)))

theorem sTake7b (hc : ¬ ep < sn) (hc2 : ¬ lastL l < lsn) (hkl : lsn = firstL l - 1 + l.length) (i : Nat) (hi : l.length = i + 1) (hat : (l.getD i default).epoch = old) (hrow : RowOk (l ++ [e])) : ASpec Go.Proofs.Try.prog 11 [ents l, .int .u32 sn, noteA (shipN ep old lsn (enc e))] [] (fun r h => r = .tup [ents (l ++ [e]), .int .u32 ep, noteA (noteAck ep e.lsn), .int .i64 0] ∧ h = []) := by
  refine spec11 ?_ (by simp)
  have hf := first_pos h
  have hv := hs.v
  have g0 := hv.l0
  have g1 := hv.l1
  have g2 := hs.l
  simp (maxSteps := 10000000) (implicitDefEqProofs := false) [c11, ents, noteA, noteL, shipN]
  refine AC.plain [noteA (shipN ep old lsn (enc e))] (sShipped _ _ _ _ hs) (by simp [noteA, noteL, shipN]) ?_
  simp (maxSteps := 10000000) (implicitDefEqProofs := false) [ent, entL]
  refine AC.plain [ents l] (sShipRow l h (by omega)) (by simp [ents]) ?_
  have w1 : IntKind.u64.wrap (firstL l - 1) = firstL l - 1 := IntWalk.u64_in _ (by have := hf1; omega)
  have hc3 : ¬ lsn < firstL l - 1 := by omega
  simp (maxSteps := 10000000) (implicitDefEqProofs := false) [hc]
  refine AC.plain [ents l] (sLast l (by omega)) (by simp [ents]) ?_
  simp (maxSteps := 10000000) (implicitDefEqProofs := false) [hc2]
  refine AC.plain [ents l] (sFirst l) (by simp [ents]) ?_
  simp (maxSteps := 10000000) (implicitDefEqProofs := false) [w1, hc3]
  refine AC.plain [ents l] (sFirst l) (by simp [ents]) ?_
  have hc4 : firstL l ≤ lsn := by omega
  simp (maxSteps := 10000000) (implicitDefEqProofs := false) [hc4]
  refine AC.plain [ents l, .int .u64 lsn] (sAt l i lsn (by omega) (by omega) (by omega) (by omega) (by omega)) (by simp [ents]) ?_
  rw [hat]
  simp (maxSteps := 10000000) (implicitDefEqProofs := false)
  refine AC.plain [ents l] (sFirst l) (by simp [ents]) ?_
  have w2 : IntKind.u64.wrap (lsn - (firstL l - 1)) = l.length := by rw [IntWalk.u64_in _ (by omega)]; omega
  have w3 : IntKind.i64.wrap (l.length : Int) = l.length := IntWalk.i64_in _ (by omega)
  simp (maxSteps := 10000000) (implicitDefEqProofs := false) [w1, w2, w3]
  refine AC.det [] [ents l] (sOwn l (by omega) h.small) (by decide) (by simp) (by simp [ents]) (by simp) ?_
  simp (maxSteps := 10000000) (implicitDefEqProofs := false) [ erow, entL]
  have hlt : l.length = l.length := rfl
  have hsn := AOles_snocEnd l e
  refine ⟨⟨by omega, by omega, fun p q hp hq => entL_one e p q hp hq⟩, ?_⟩
  refine AC.det [5] [.own 0 11 (l ++ [e]).length] ((sShipRowOwn (l ++ [e]) hrow (by simp; omega)).pre hsn) (by decide) (by simp; rfl) (by simp ) (by simp) ?_
  simp (maxSteps := 10000000) (implicitDefEqProofs := false) [erow]
  refine (Ent.frz 5 (T := 69) (s := 11) (n' := l.length + 1) (f := entF (l ++ [e])) rfl).trans ?_
  exact Ent.map [] (idn rfl) (by simp) (by simp) (by simp) (by simp [noteAck]; exact AVle.tup (by simp; exact AVle.agg (by simp)))
end
end Go.AM.S
