/- A part of the proof: lemmas. -/
import Derived.Test.YtdoekadmocabdaaAM2
set_option linter.unusedVariables false
set_option linter.unusedSimpArgs false
namespace Go.AM

/-! ### Constants and operands -/
theorem strOf_bytes (s : ByteArray) : strOf (s.data.toList.map fun b => (b.toNat : Int)) = s := by
  unfold strOf
  cases s with
  | mk d =>
    have h : (d.toList.map fun b => (b.toNat : Int)).map (fun n => UInt8.ofNat n.toNat) = d.toList := by
      rw [List.map_map]
      exact (List.map_congr_left (g := id) fun b _ => by simp).trans (List.map_id _)
    simp only [h, Array.toArray_toList]

mutual
theorem kvOf_rel (R : RL) (w : World) (I : Nat → Prop) : ∀ (n : Nat) (v : Value) (k : KV), kvOf n v = some k → CRel R w I k.av v
  | 0, v, k, h => by simp [kvOf] at h
  | n+1, v, k, h => by
    cases v <;> simp [kvOf] at h
    case int a b => subst h; unfold KV.av CRel; rfl
    case bool a => subst h; unfold KV.av CRel; rfl
    case string s => subst h; unfold KV.av CRel; rw [strOf_bytes]; refine ⟨rfl, fun x hx => ?_⟩; simp at hx; obtain ⟨b, _, rfl⟩ := hx; have := b.toNat_lt; omega
    case pointer p => cases p <;> simp [kvOf] at h; subst h; unfold KV.av CRel; rfl
    case slice p l c =>
      cases p with
      | none => cases l <;> cases c <;> simp [kvOf] at h; subst h; unfold KV.av CRel; rfl
      | some p => simp [kvOf] at h
    case agg cs =>
      obtain ⟨l, hl, rfl⟩ := h
      unfold KV.av CRel
      exact ⟨cs, rfl, kvOfs_rel R w I n cs.toList l (allS_eq hl)⟩
theorem kvOfs_rel (R : RL) (w : World) (I : Nat → Prop) : ∀ (n : Nat) (vs : List Value) (l : List KV), vs.map (kvOf n) = l.map some → CRelL R w I (KV.avs l) vs
  | n, [], l, h => by
    cases l with
    | nil => unfold KV.avs CRelL; rfl
    | cons => simp at h
  | n, v :: vs, l, h => by
    cases l with
    | nil => simp at h
    | cons k l =>
      simp only [List.map_cons, List.cons.injEq] at h
      unfold KV.avs CRelL
      exact ⟨v, vs, rfl, kvOf_rel R w I n v k h.1, kvOfs_rel R w I n vs l h.2⟩
end

theorem CRelL.getD {R : RL} {w : World} {I : Nat → Prop} {l : List AV} {vs : List Value} (h : CRelL R w I l vs) (n : Nat) : CRel R w I (l.getD n .und) (vs.getD n undef) := by
  rw [List.getD_eq_getElem?_getD, List.getD_eq_getElem?_getD]
  cases hx : l[n]? with
  | none => simp only [Option.getD_none]; unfold CRel; trivial
  | some x =>
    obtain ⟨v, hv, hr⟩ := h.get n x hx
    rw [hv]; exact hr

theorem ev_rel {R : RL} {w : World} {I : Nat → Prop} {t : List AV} {a : Act} (h : CRelL R w I t a.tmps.toList) {x : Operand} {y : Opd} (hx : opdOf x = some y) : CRel R w I (ev t y) (a.eval x) := by
  cases x with
  | tmp n =>
    simp [opdOf] at hx; subst hx
    have := h.getD n
    simpa [ev, Act.eval, Array.getD_eq_getD_getElem?, List.getD_eq_getElem?_getD] using this
  | const v =>
    simp [opdOf] at hx; obtain ⟨k, hk, rfl⟩ := hx
    exact kvOf_rel R w I 3 v k hk
  | global g => simp [opdOf] at hx
  | func f =>
    simp [opdOf] at hx; subst hx
    simp only [ev, Act.eval]; unfold CRel
    exact ⟨#[], rfl, by unfold CRelL; rfl⟩

/-! ### Quiet operations -/
def aNames (op : IOp) (e : Opd → AV) : List Nat :=
  match op with
  | .load _ a => match e a with
    | .ptr n _ => [n]
    | .ep n _ _ _ => [n]
    | _ => []
  | _ => []

structure Wsame (R : RL) (I : Nat → Prop) (names : List Nat) (w w2 : World) : Prop where
  i : names = [] → ∀ b, I b → w2.heap[b]? = w.heap[b]?
  n : ∀ n, n ∈ names → ∀ b c, R[n]? = some (some (b, c)) → w2.heap[b]? = w.heap[b]?

theorem Wsame.refl (R : RL) (I : Nat → Prop) (names : List Nat) (w : World) : Wsame R I names w w := ⟨fun _ _ _ => rfl, fun _ _ _ _ _ => rfl⟩

def Quiet (P : Program) (o : Oper) (a : Act) (R : RL) (w : World) (I : Nat → Prop) (mem : Bool) (names : List Nat) (x : AV) : Prop :=
  ∃ v, (∀ w2, (mem = true → Wsame R I names w w2) → (execOp a.eval o).run P w2 = .ok (.value v) w2) ∧ CRel R w I x v

section
variable {P : Program} {R : RL} {w : World} {I : Nat → Prop}

theorem fill_rel {places : Nat → Option (Nat × Nat)} : ∀ (ps : List (Nat × Value)) (qs : List (Nat × Nat × AV)) (cells : Array Value) (l : List AV),
    CRelL R w I l cells.toList → ps.length = qs.length →
    (∀ (k i : Nat) (v : Value) (off sz : Nat) (x : AV), ps[k]? = some (i, v) → qs[k]? = some (off, sz, x) → places i = some (off, sz) ∧ CRelL R w I x.cs v.cells.toList) →
    fillOk l.length qs → ∃ cells', Instr.fill places cells ps = some cells' ∧ CRelL R w I (fillP l qs) cells'.toList := by
  intro ps
  induction ps with
  | nil =>
    intro qs cells l h hl _ _
    cases qs with
    | nil => exact ⟨cells, rfl, h⟩
    | cons q r => simp at hl
  | cons p ps ih =>
    intro qs cells l h hl hp hok
    cases qs with
    | nil => simp at hl
    | cons q qs =>
      obtain ⟨i, v⟩ := p
      obtain ⟨off, sz, x⟩ := q
      obtain ⟨h1, h2⟩ := hp 0 i v off sz x rfl rfl
      obtain ⟨h5, h3, h4⟩ := hok
      have hlen := h2.length
      have hcl := h.length
      simp only [Array.length_toList] at hlen hcl
      have put : ∀ (xs : List AV) (vs : List Value) (j : Nat) (c : Array Value) (l : List AV), CRelL R w I l c.toList → CRelL R w I xs vs →
          CRelL R w I (putAt l (off + j) xs) ((vs.zipIdx j).foldl (fun cs (c, j) => cs.setIfInBounds (off + j) c) c).toList := by
        intro xs
        induction xs with
        | nil => intro vs j c l hc hv; unfold CRelL at hv; subst hv; exact hc
        | cons y ys ihy =>
          intro vs j c l hc hv
          unfold CRelL at hv
          obtain ⟨u, us, rfl, hu, hus⟩ := hv
          simp only [List.zipIdx_cons, List.foldl_cons, putAt]
          refine ihy us (j + 1) _ _ ?_ hus
          rw [Array.toList_setIfInBounds]
          exact hc.set _ hu
      have hput := put x.cs v.cells.toList 0 cells l h h2
      simp only [Nat.add_zero] at hput
      have hlp : (putAt l off x.cs).length = l.length := by
        have : ∀ (xs : List AV) (l : List AV) (o : Nat), (putAt l o xs).length = l.length := by
          intro xs; induction xs with
          | nil => intro l o; rfl
          | cons y ys ihy => intro l o; simp [putAt, ihy]
        exact this _ _ _
      have hz : v.cells.zipIdx.foldl (fun cs (c, j) => cs.setIfInBounds (off + j) c) cells = (v.cells.toList.zipIdx.foldl (fun cs (c, j) => cs.setIfInBounds (off + j) c) cells) := by
        rw [← Array.foldl_toList, Array.toList_zipIdx]
      obtain ⟨c', hc', hr'⟩ := ih qs (v.cells.zipIdx.foldl (fun cs (c, j) => cs.setIfInBounds (off + j) c) cells) (putAt l off x.cs) (by rw [hz]; exact hput) (by simpa using hl)
        (fun k i v off sz x hk hk' => hp (k + 1) i v off sz x (by simpa using hk) (by simpa using hk')) (by rw [hlp]; exact h4)
      refine ⟨c', ?_, hr'⟩
      simp only [Instr.fill, h1]
      have hc1 : ¬ (v.cells.size ≠ sz ∨ off + v.cells.size > cells.size) := by omega
      rw [if_neg (by simpa using hc1)]
      exact hc'

theorem isAbs_rel {x y : AV} {g : Bool} {v : Value} (h : isAbs x = some (g, y)) (hx : CRel R w I x v) (hg : g = true) : CRel R w I y v := by
  unfold isAbs at h
  split at h
  · cases h; unfold CRel at hx; exact hx.1 hg
  · cases h
  · cases h; exact hx

theorem pick_rel {c : Bool} {x y z : AV} {p : Prop} {vx vy : Value} (h : pickV c x y = some (p, z)) (hp : p) (hx : CRel R w I x vx) (hy : CRel R w I y vy) :
    CRel R w I z (if c then vx else vy) := by
  unfold pickV at h
  split at h
  · rename_i g a g' b h1 h2
    cases h
    cases c
    · have := isAbs_rel h2 hy (hp.2 rfl)
      simpa using this
    · have := isAbs_rel h1 hx (hp.1 rfl)
      simpa using this
  · rename_i g k a g' k' b h1 h2
    split at h
    · rename_i hk
      subst hk
      cases h
      cases c
      · have := isAbs_rel h2 hy (hp.2 rfl)
        simpa using this
      · have := isAbs_rel h1 hx (hp.1 rfl)
        simpa using this
    · cases h
  · cases h

theorem strOf_toList {l : List Int} (h : ∀ x, x ∈ l → 0 ≤ x ∧ x < 256) : (strOf l).toList.map (fun b => (b.toNat : Int)) = l := by
  have e : (strOf l).toList = l.map fun n => UInt8.ofNat n.toNat := by
    rw [ByteArray.toList_eq]; simp [strOf]
  rw [e, List.map_map]
  conv => rhs; rw [← List.map_id l]
  refine List.map_congr_left fun x hx => ?_
  obtain ⟨h0, h1⟩ := h x hx
  simp only [Function.comp, id]
  rw [UInt8.toNat_ofNat']
  omega

theorem strOf_eq {a b : List Int} (ha : ∀ x, x ∈ a → 0 ≤ x ∧ x < 256) (hb : ∀ x, x ∈ b → 0 ≤ x ∧ x < 256) : ((strOf a).toList == (strOf b).toList) = decide (a = b) := by
  by_cases h : a = b
  · subst h; simp
  · simp only [h, decide_false]
    rw [beq_eq_false_iff_ne]
    intro e
    exact h (by rw [← strOf_toList ha, ← strOf_toList hb, e])

theorem eqGuard_int (op : BinOp) (t : TypeId) (x y : Operand) (k k' : IntKind) (a b : Int) (w : World) : (eqGuard op t x y (.int k a) (.int k' b)).run P w = .ok () w := by
  unfold eqGuard; split <;> rfl
theorem eqGuard_str (op : BinOp) (t : TypeId) (x y : Operand) (a b : ByteArray) (w : World) : (eqGuard op t x y (.string a) (.string b)).run P w = .ok () w := by
  unfold eqGuard; split <;> rfl
theorem eqGuard_bool (op : BinOp) (t : TypeId) (x y : Operand) (a b : Bool) (w : World) : (eqGuard op t x y (.bool a) (.bool b)).run P w = .ok () w := by
  unfold eqGuard; split <;> rfl
theorem eqGuard_slice (op : BinOp) (t : TypeId) (x y : Operand) (a b : Option Addr) (n c n' c' : Nat) (w : World) : (eqGuard op t x y (.slice a n c) (.slice b n' c')).run P w = .ok () w := by
  unfold eqGuard; split <;> rfl
theorem eqGuard_ptr (op : BinOp) (t : TypeId) (x y : Operand) (a b : Option Addr) (w : World) : (eqGuard op t x y (.pointer a) (.pointer b)).run P w = .ok () w := by
  unfold eqGuard; split <;> rfl

/-- The binary operations on whole numbers and texts: whatever world. -/
theorem bin_rel {op : BinOp} {t : TypeId} {x y z : AV} {p : Prop} {u v : Value} (ox oy : Operand) (h : bin op x y = some (p, z)) (hp : p) (hx : CRel R w I x u) (hy : CRel R w I y v) :
    ∃ r, (∀ w2, ((do eqGuard op t ox oy u v; binOp op t u v : Sem Value)).run P w2 = .ok r w2) ∧ CRel R w I z r := by
  unfold bin at h
  split at h
  · rename_i k a k' b
    unfold CRel at hx hy
    subst hx; subst hy
    split at h
    · cases h
      refine ⟨_, fun w2 => ?_, by unfold CRel; rfl⟩
      simp [eqGuard_int, binOp, Op.shift, show ¬ b < 0 by omega]
    · cases h
      refine ⟨_, fun w2 => ?_, by unfold CRel; rfl⟩
      simp [eqGuard_int, binOp, Op.shift, show ¬ b < 0 by omega]
    · rename_i hn1 hn2
      split at h
      · rename_i hk
        subst hk
        cases op <;> simp only [ibin] at h <;> cases h <;>
          (refine ⟨_, fun w2 => ?_, by unfold CRel; rfl⟩; simp_all [eqGuard_int, binOp, Op.intArith, Op.intDiv, Op.intBits, Op.intCmp] <;> (try (rw [Bool.eq_iff_iff]; simp)))
      · cases h
  · rename_i a b
    unfold CRel at hx hy
    obtain ⟨rfl, ha⟩ := hx
    obtain ⟨rfl, hb⟩ := hy
    split at h
    · cases h
      refine ⟨.bool (decide (a = b)), fun w2 => ?_, by unfold CRel; rfl⟩
      simp [eqGuard_str, binOp, Op.stringOp, strOf_eq ha hb]
    · cases h
      refine ⟨.bool (!decide (a = b)), fun w2 => ?_, by unfold CRel; rfl⟩
      simp [eqGuard_str, binOp, Op.stringOp, strOf_eq ha hb]
    · cases h
  · cases h

theorem aggSz_none {t : TypeId} (h : aggSz P t = some none) : ∀ w2, (isAgg t).run P w2 = .ok false w2 := by
  intro w2
  unfold aggSz at h
  split at h
  · cases hi : P.info? t <;> simp [hi] at h
  · cases hi : P.info? t <;> simp [hi] at h
  · rename_i d h1 h2 hd
    simp only [isAgg, Sem.run_bind, run_underlying hd, Result.andThen_ok]
    cases d <;> simp_all
  · cases h

theorem aggSz_some {t : TypeId} {s : Nat} (h : aggSz P t = some (some s)) : ∀ w2, (isAgg t).run P w2 = .ok true w2 ∧ (sizeOf t).run P w2 = .ok s w2 := by
  intro w2
  unfold aggSz at h
  split at h
  · rename_i hd
    cases hi : P.info? t <;> simp [hi] at h
    subst h
    simp [isAgg, run_underlying hd, sizeOf, typeInfo, hi]
  · rename_i hd
    cases hi : P.info? t <;> simp [hi] at h
    subst h
    simp [isAgg, run_underlying hd, sizeOf, typeInfo, hi]
  · cases h
  · cases h

theorem run_loadAt_one {t : TypeId} (h : aggSz P t = some none) {w2 : World} {ad : Addr} {u : Value} (hu : w2.cell? ad = some u) : (Instr.loadAt t (.pointer (some ad))).run P w2 = .ok u w2 := by
  simp [Instr.loadAt, Instr.sureAddr, loadVar, aggSz_none h w2, hu]

theorem run_loadAt_agg {t : TypeId} {s : Nat} (h : aggSz P t = some (some s)) {w2 : World} {ad : Addr} {cs : List Value} (hl : cs.length = s) (hu : ∀ j v, cs[j]? = some v → w2.cell? (ad.add j) = some v) :
    (Instr.loadAt t (.pointer (some ad))).run P w2 = .ok (.agg cs.toArray) w2 := by
  have := run_loadCells_list (P := P) w2 ad cs hu
  rw [hl] at this
  simp [Instr.loadAt, Instr.sureAddr, loadVar, (aggSz_some h w2).1, (aggSz_some h w2).2, this]

theorem cell_of_block {w : World} {b : Nat} {vs : Array Value} {T : TypeId} {fr : Nat × Nat} (h : w.heap[b]? = some (.cells vs T fr)) (j : Nat) : w.cell? ⟨b, j, none⟩ = vs[j]? := by
  simp [World.cell?, h]

theorem load_rel {t : TypeId} {s : Option Nat} {x : AV} {v : Value} {h : List AO} {r : SR} (hs : aggSz P t = some s) (hr : aLoad x s h = some r) (hsc : r.sc) (hx : CRel R w I x v) (hh : ∀ n o, h[n]? = some o → ORel R w I n o) :
    r.h = h ∧ ∃ u, (∀ w2, Wsame R I (match x with | .ptr n _ => [n] | .ep n _ _ _ => [n] | _ => []) w w2 → (Instr.loadAt t v).run P w2 = .ok u w2) ∧ CRel R w I r.v u := by
  unfold aLoad at hr
  split at hr
  · rename_i n off
    split at hr
    · rename_i T cs ho
      cases hr
      obtain ⟨b, c, vs, h1, h2, h3⟩ := hh n _ ho
      unfold CRel at hx
      obtain ⟨b', c', h1', rfl⟩ := hx
      rw [h1] at h1'; cases h1'
      have hlen := h3.length
      simp only [Array.length_toList] at hlen
      have hoff : off < cs.length := hsc
      obtain ⟨u, hu, hcr⟩ := h3.get off cs[off] (List.getElem?_eq_getElem hoff)
      refine ⟨rfl, u, fun w2 hw => run_loadAt_one hs ?_, ?_⟩
      · rw [cell_of_block ((hw.n n (by simp) b c h1).trans h2)]
        simpa using hu
      · show CRel R w I (cs.getD off .und) u
        rw [List.getD_eq_getElem?_getD, List.getElem?_eq_getElem hoff]; exact hcr
    · cases hr
  · rename_i n off s
    split at hr
    · rename_i T cs ho
      cases hr
      obtain ⟨b, c, vs, h1, h2, h3⟩ := hh n _ ho
      unfold CRel at hx
      obtain ⟨b', c', h1', rfl⟩ := hx
      rw [h1] at h1'; cases h1'
      have hlen := h3.length
      simp only [Array.length_toList] at hlen
      have hoff : off + s ≤ cs.length := hsc
      refine ⟨rfl, .agg ((vs.toList.drop off).take s).toArray, fun w2 hw => run_loadAt_agg hs (by simp; omega) fun j u hj => ?_, ?_⟩
      · rw [Addr.add_lit, cell_of_block ((hw.n n (by simp) b c h1).trans h2)]
        rw [List.getElem?_take] at hj
        split at hj
        · rw [List.getElem?_drop] at hj; simpa using hj
        · cases hj
      · unfold CRel
        refine ⟨_, rfl, CRelL.of_get (by simp; omega) fun i y u hy hu => ?_⟩
        simp only [List.getElem?_take, List.getElem?_drop] at hy hu
        split at hy
        · rename_i hi
          rw [if_pos hi] at hu
          obtain ⟨u', hu', hr'⟩ := h3.get _ _ hy
          rw [hu] at hu'; cases hu'; exact hr'
        · cases hy
    · cases hr
  · rename_i n z i j
    split at hr
    · rename_i T z' k f ho
      split at hr
      · rename_i hz
        subst hz
        cases hr
        obtain ⟨hi, hj⟩ : i < k ∧ j < z' := hsc
        obtain ⟨hs0, ho'⟩ := hh n _ ho
        unfold CRel at hx
        obtain ⟨b', c', h1', rfl⟩ := hx
        rcases ho' with ⟨h1, h2⟩ | ⟨b, c, vs, h1, h2, h3, h4, h5, h6⟩
        · omega
        · rw [h1] at h1'; cases h1'
          obtain ⟨u, hu, hcr⟩ := h6 i j hi hj
          refine ⟨rfl, u, fun w2 hw => run_loadAt_one hs ?_, hcr⟩
          rw [cell_of_block ((hw.n n (by simp) _ _ h1).trans h2)]
          exact hu
      · cases hr
    · cases hr
  · rename_i n z i j s
    split at hr
    · rename_i T z' k f ho
      split at hr
      · rename_i hz
        subst hz
        cases hr
        obtain ⟨hi, hj⟩ : i < k ∧ j + s ≤ z' := hsc
        obtain ⟨hs0, ho'⟩ := hh n _ ho
        unfold CRel at hx
        obtain ⟨b', c', h1', rfl⟩ := hx
        rcases ho' with ⟨h1, h2⟩ | ⟨b, c, vs, h1, h2, h3, h4, h5, h6⟩
        · omega
        · rw [h1] at h1'; cases h1'
          have hch : ∀ q : Nat, ∃ u : Value, q < s → vs[i * z' + j + q]? = some u ∧ CRel R w I (f i (j + q)) u := fun q => by
            by_cases hq : q < s
            · obtain ⟨u, h1, h2⟩ := h6 i (j + q) hi (by omega); exact ⟨u, fun _ => ⟨by rw [Nat.add_assoc]; exact h1, h2⟩⟩
            · exact ⟨undef, fun h => absurd h hq⟩
          obtain ⟨g, hg⟩ := Classical.axiomOfChoice hch
          refine ⟨rfl, .agg ((List.range s).map g).toArray, fun w2 hw => run_loadAt_agg hs (by simp) fun q u hj => ?_, ?_⟩
          · simp only [List.getElem?_map] at hj
            cases hj' : (List.range s)[q]? with
            | none => simp [hj'] at hj
            | some q' =>
              obtain ⟨hq1, hq2⟩ := List.getElem?_eq_some_iff.1 hj'
              simp at hq1 hq2
              subst hq2
              simp [hj'] at hj
              subst hj
              rw [Addr.add_lit, cell_of_block ((hw.n n (by simp) _ _ h1).trans h2)]
              exact (hg q hq1).1
          · unfold CRel
            refine ⟨_, rfl, CRelL.of_get (by simp) fun q y u hy hu => ?_⟩
            simp only [List.getElem?_map] at hy hu
            cases hj' : (List.range s)[q]? with
            | none => simp [hj'] at hy
            | some q' =>
              obtain ⟨hq1, hq2⟩ := List.getElem?_eq_some_iff.1 hj'
              simp at hq1 hq2
              subst hq2
              simp [hj'] at hy hu
              subst hy; subst hu
              exact (hg q hq1).2
      · cases hr
    · cases hr
  · rename_i m k
    cases hr
    unfold CRel at hx
    obtain ⟨b, o, rfl, hI, hk⟩ := hx
    obtain ⟨u, hu, hr⟩ := hk 0 hsc
    refine ⟨rfl, u, fun w2 hw => run_loadAt_one hs ?_, hr⟩
    rw [← hu]; exact cell_ext (hw.i rfl b hI)
  · rename_i m k s
    cases hr
    unfold CRel at hx
    obtain ⟨b, o, rfl, hI, hk⟩ := hx
    have hs' : s ≤ m := hsc
    have hch : ∀ j : Nat, ∃ u : Value, j < s → w.cell? ⟨b, o + j, none⟩ = some u ∧ CRel R w I (k j) u := fun j => by
      by_cases hj : j < s
      · obtain ⟨u, h1, h2⟩ := hk j (by omega); exact ⟨u, fun _ => ⟨h1, h2⟩⟩
      · exact ⟨undef, fun h => absurd h hj⟩
    obtain ⟨g, hg⟩ := Classical.axiomOfChoice hch
    refine ⟨rfl, .agg ((List.range s).map g).toArray, fun w2 hw => run_loadAt_agg hs (by simp) fun j u hj => ?_, ?_⟩
    · simp only [List.getElem?_map] at hj
      cases hj' : (List.range s)[j]? with
      | none => simp [hj'] at hj
      | some q =>
        have hq := List.getElem?_eq_some_iff.1 hj'
        obtain ⟨hq1, hq2⟩ := hq
        simp at hq1 hq2
        subst hq2
        simp [hj'] at hj
        subst hj
        rw [Addr.add_lit]
        exact (cell_ext (hw.i rfl b hI)).trans (hg j hq1).1
    · unfold CRel
      refine ⟨_, rfl, CRelL.of_get (by simp) fun i y u hy hu => ?_⟩
      simp only [List.getElem?_map] at hy hu
      cases hj' : (List.range s)[i]? with
      | none => simp [hj'] at hy
      | some q =>
        obtain ⟨hq1, hq2⟩ := List.getElem?_eq_some_iff.1 hj'
        simp at hq1 hq2
        subst hq2
        simp [hj'] at hy hu
        subst hy; subst hu
        exact (hg i hq1).2
  · cases hr
end
end Go.AM
