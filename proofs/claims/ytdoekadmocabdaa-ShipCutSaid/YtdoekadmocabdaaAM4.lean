/- A part of the proof: lemmas. -/
import Derived.Test.YtdoekadmocabdaaAM3
set_option linter.unusedVariables false
set_option linter.unusedSimpArgs false
namespace Go.AM
section
variable {P : Program} {R : RL} {w : World} {I : Nat → Prop}

theorem psl_bytes {n : Nat} {f : Nat → Nat → AV} {b o : Nat} (hb : ∀ i, i < n → isB (f i 0)) (hc : ∀ i j, i < n → j < 1 → ∃ u, w.cell? ⟨b, o + (i * 1 + j), none⟩ = some u ∧ CRel R w I (f i j) u) :
    ∀ i, i < n → w.cell? ⟨b, o + i, none⟩ = some (.int .u8 ((tabI n f).getD i 0)) := by
  intro i hi
  obtain ⟨u, hu, hr⟩ := hc i 0 hi (by omega)
  obtain ⟨q, hq, _, _⟩ := hb i hi
  rw [hq] at hr
  unfold CRel at hr
  subst hr
  simp only [Nat.mul_one, Nat.add_zero] at hu
  rw [hu]
  simp [tabI, List.getD_eq_getElem?_getD, hi, hq, toI]

theorem tabI_range {n : Nat} {f : Nat → Nat → AV} (hb : ∀ i, i < n → isB (f i 0)) : ∀ x, x ∈ tabI n f → 0 ≤ x ∧ x < 256 := by
  intro x hx
  simp only [tabI, List.mem_map, List.mem_range] at hx
  obtain ⟨i, hi, rfl⟩ := hx
  obtain ⟨q, hq, h0, h1⟩ := hb i hi
  rw [hq]; exact ⟨h0, h1⟩

theorem strOf_nums (l : List Int) : strOfNums l = strOf l := by
  unfold strOfNums strOf
  rfl

theorem mapM_opds {a : Act} {e : Opd → AV} : ∀ {l : List Operand} {os : List Opd}, l.map opdOf = os.map some → (∀ x y, opdOf x = some y → y ∈ os → CRel R w I (e y) (a.eval x)) → CRelL R w I (os.map e) (l.map a.eval)
  | [], os, h, _ => by
    cases os with
    | nil => unfold CRelL; rfl
    | cons => simp at h
  | x :: l, os, h, he => by
    cases os with
    | nil => simp at h
    | cons y os =>
      simp only [List.map_cons, List.cons.injEq] at h
      simp only [List.map_cons]
      unfold CRelL
      exact ⟨_, _, rfl, he x y h.1 (by simp), mapM_opds h.2 fun x y h1 h2 => he x y h1 (by simp [h2])⟩

theorem slice_bound {v : Int} {k : IntKind} {n : Nat} {c : BoundsCode} (h0 : 0 ≤ v) (h1 : v ≤ n) (w2 : World) : (Instr.sliceBound (.int k v) n c).run P w2 = .ok v.toNat w2 := by
  simp [Instr.sliceBound, asIntOf, h0, h1]

/-- A struct's cells, or the one cell. -/
theorem CRel.cs {x : AV} {v : Value} (h : CRel R w I x v) (hf : x.fits = true) : CRelL R w I x.cs v.cells.toList := by
  cases x
  case agg l => unfold CRel at h; obtain ⟨cs, rfl, h2⟩ := h; exact h2
  all_goals
    first
      | (simp [AV.fits, AV.one] at hf; done)
      | (obtain ⟨_, h2⟩ := h.one (by simp [AV.one])
         rw [h2]
         show CRelL R w I [_] [v]
         unfold CRelL
         exact ⟨v, [], rfl, h, by unfold CRelL; rfl⟩)

def fin (P : Program) (o : Oper) (a : Act) (R : RL) (w : World) (I : Nat → Prop) (mem : Bool) (names : List Nat) (r : SR) (h : List AO) : Prop := r.h = h ∧ Quiet P o a R w I mem names r.v

theorem fin_of {o : Oper} {a : Act} {mem : Bool} {names : List Nat} {r : SR} {h : List AO} {v : Value} (h1 : r.h = h) (h2 : ∀ w2, (execOp a.eval o).run P w2 = .ok (.value v) w2) (h3 : CRel R w I r.v v) : fin P o a R w I mem names r h :=
  ⟨h1, _, fun w2 _ => h2 w2, h3⟩

section
variable {a : Act} {e e0 : Opd → AV} {h : List AO} {r : SR} {dst : Option Tmp} {ty : TypeId} {pos : String} {after : Array Edge} {guard : Option (Nat × Bool)} {names : List Nat} {mem : Bool}

theorem q_mv {op' : Op} {x : Operand} {y : Opd} (hop : op' = .move x ∨ op' = .assign x) (hy : opdOf x = some y) (hr : aop (.mv y) e e0 h = some r) (he : ∀ x z, opdOf x = some z → z ∈ (IOp.mv y).opds → CRel R w I (e z) (a.eval x)) :
    fin P ⟨dst, op', ty, pos, after, guard⟩ a R w I mem names r h := by
  simp only [aop, Option.some.injEq] at hr; subst hr
  rcases hop with rfl | rfl <;> exact fin_of rfl (fun w2 => by simp [execOp]) (he x y hy (by simp [IOp.opds]))

theorem q_pick {c x y : Operand} {c' x' y' : Opd} (hc' : opdOf c = some c') (hx' : opdOf x = some x') (hy' : opdOf y = some y') (hr : aop (.pick c' x' y') e e0 h = some r) (hsc : r.sc)
    (he : ∀ x z, opdOf x = some z → z ∈ (IOp.pick c' x' y').opds → CRel R w I (e z) (a.eval x)) (he0 : ∀ x y, opdOf x = some y → CRel R w I (e0 y) (a.eval x)) :
    fin P ⟨dst, .pick c x y, ty, pos, after, guard⟩ a R w I mem names r h := by
  simp only [aop, Option.map_eq_some_iff] at hr
  obtain ⟨⟨p, z⟩, hp, rfl⟩ := hr
  have h1 := he c c' hc' (by simp [IOp.opds])
  unfold pick at hp
  split at hp
  · rename_i b hb
    rw [hb] at h1
    unfold CRel at h1
    refine fin_of rfl (fun w2 => ?_) (pick_rel hp hsc (he0 x x' hx') (he0 y y' hy'))
    simp only [execOp, h1, asBool]
    cases b <;> simp
  · cases hp

theorem q_build {t : TypeId} {parts : Array (Nat × Operand)} {op : IOp} (hc : cBuild P t parts = some op) (hr : aop op e e0 h = some r) (hsc : r.sc)
    (he : ∀ x z, opdOf x = some z → z ∈ op.opds → CRel R w I (e z) (a.eval x)) : fin P ⟨dst, .build t parts, ty, pos, after, guard⟩ a R w I mem names r h := by
  unfold cBuild at hc
  split at hc
  · rename_i fs hu
    split at hc
    · rename_i z pl hz hpl
      simp only [Option.map_eq_some_iff] at hc
      obtain ⟨ps, hps, rfl⟩ := hc
      have hps' := allS_eq hps
      simp only [aop] at hr
      split at hr
      · rename_i hfits
        cases hr
        unfold zeroOf at hz
        split at hz
        · rename_i i hi
          split at hz
          · rename_i zv hzv
            have hzz := kvOfs_rel R w I 3 zv.cells.toList z (allS_eq hz)
            have hlen : parts.toList.length = ps.length := by simpa using congrArg List.length hps'
            obtain ⟨cells, hf, hcr⟩ := fill_rel (places := (pl.toArray[·]?)) (parts.toList.map fun p => (p.1, a.eval p.2)) (evs e ps) zv.cells (KV.avs z) hzz (by simp [evs, hlen]) (by
              intro k i v off sz x hk hk'
              simp only [List.getElem?_map, Option.map_eq_some_iff] at hk
              obtain ⟨p, hp, hpe⟩ := hk
              cases hpe
              simp only [evs, List.getElem?_map, Option.map_eq_some_iff] at hk'
              obtain ⟨q, hq, hqe⟩ := hk'
              cases hqe
              have := congrArg (fun l => l[k]?) hps'
              simp only [List.getElem?_map, hp, hq, Option.map_some] at this
              split at this
              · rename_i f y hf hy
                have := Option.some.inj (Option.some.inj this)
                subst this
                refine ⟨by simpa using hf, ?_⟩
                have hm : (f.1, f.2, y) ∈ ps := List.mem_of_getElem? hq
                have hall := List.all_eq_true.1 hfits (f.1, f.2, e y) (List.mem_map.2 ⟨_, hm, rfl⟩)
                exact (he p.2 y hy (List.mem_map.2 ⟨_, hm, rfl⟩)).cs hall
              · cases this) hsc
            refine fin_of rfl (fun w2 => ?_) (v := .agg cells) (by unfold CRel; exact ⟨cells, rfl, hcr⟩)
            have hb : P.built t (parts.map fun p => (p.1, a.eval p.2)).toList = some cells := by
              unfold Program.built
              unfold places at hpl
              simp only [hi, hu, hzv, hpl]
              simpa using hf
            have := run_build w2 t _ cells hb
            simp only [execOp, Sem.run_bind]
            rw [this]; rfl
          · cases hz
        · cases hz
      · cases hr
    · cases hc
  · cases hc

theorem q_load {t : TypeId} {x : Operand} {x' : Opd} {s : Option Nat} (hs : aggSz P t = some s) (hx : opdOf x = some x') (hr : aop (.load s x') e e0 h = some r) (hsc : r.sc)
    (he : ∀ x z, opdOf x = some z → z ∈ (IOp.load s x').opds → CRel R w I (e z) (a.eval x)) (hh : ∀ n o, h[n]? = some o → ORel R w I n o) :
    fin P ⟨dst, .load t x, ty, pos, after, guard⟩ a R w I true (aNames (.load s x') e) r h := by
  simp only [aop] at hr
  have h1 := he x x' hx (by simp [IOp.opds])
  obtain ⟨h2, u, h3, h4⟩ := load_rel hs hr hsc h1 hh
  refine ⟨h2, u, fun w2 hw => ?_, h4⟩
  simp only [execOp, Sem.run_bind, h3 w2 (hw rfl), Result.andThen_ok, Sem.run_pure]

theorem q_nilck {x : Operand} {x' : Opd} (hx : opdOf x = some x') (hr : aop (.nilck x') e e0 h = some r)
    (he : ∀ x z, opdOf x = some z → z ∈ (IOp.nilck x').opds → CRel R w I (e z) (a.eval x)) : fin P ⟨dst, .nilCheck x, ty, pos, after, guard⟩ a R w I mem names r h := by
  have h1 := he x x' hx (by simp [IOp.opds])
  simp only [aop] at hr
  split at hr
  · rename_i n off hx
    cases hr
    rw [hx] at h1
    have h2 := h1
    unfold CRel at h1
    obtain ⟨b, c, _, hv⟩ := h1
    refine fin_of rfl (fun w2 => ?_) h2
    simp [execOp, hv]
  · rename_i n s i j hx
    cases hr
    rw [hx] at h1
    have h2 := h1
    unfold CRel at h1
    obtain ⟨b, c, _, hv⟩ := h1
    refine fin_of rfl (fun w2 => ?_) h2
    simp [execOp, hv]
  · rename_i m k hx
    cases hr
    rw [hx] at h1
    have h2 := h1
    unfold CRel at h1
    obtain ⟨b, c, hv, _⟩ := h1
    refine fin_of rfl (fun w2 => ?_) h2
    simp [execOp, hv]
  · cases hr

theorem equalIn_ptr {t el : TypeId} (hu : P.underlying t = some (.pointer el)) (d : Nat) (p q : Option Addr) (h : p = none ∨ q = none) (w2 : World) :
    (Op.equalIn (d + 1) t (.pointer p) (.pointer q)).run P w2 = .ok (p.isNone && q.isNone) w2 := by
  rcases h with rfl | rfl
  · simp [Op.equalIn, run_underlying hu]
  · cases p <;> simp [Op.equalIn, run_underlying hu]

theorem equalIn_bool {t : TypeId} (hu : P.underlying t = some .bool) (d : Nat) (p q : Bool) (w2 : World) :
    (Op.equalIn (d + 1) t (.bool p) (.bool q)).run P w2 = .ok (p == q) w2 := by
  simp [Op.equalIn, run_underlying hu]

theorem equal_ptr {t el : TypeId} (hu : P.underlying t = some (.pointer el)) (p q : Option Addr) (h : p = none ∨ q = none) (w2 : World) :
    (Op.equal t (.pointer p) (.pointer q)).run P w2 = .ok (p.isNone && q.isNone) w2 := equalIn_ptr hu 9999 p q h w2

theorem equal_bool {t : TypeId} (hu : P.underlying t = some .bool) (p q : Bool) (w2 : World) :
    (Op.equal t (.bool p) (.bool q)).run P w2 = .ok (p == q) w2 := equalIn_bool hu 9999 p q w2

theorem eqP_rel {x y : AV} {u v : Value} {b : Bool} {t el : TypeId} (hu : P.underlying t = some (.pointer el)) (h : eqP x y = some b) (hx : CRel R w I x u) (hy : CRel R w I y v) :
    (∃ p q, u = .pointer p ∧ v = .pointer q) ∧ ∀ w2, (Op.equal t u v).run P w2 = .ok b w2 := by
  unfold eqP at h
  split at h
  · cases h; unfold CRel at hx hy; subst hx; subst hy
    exact ⟨⟨_, _, rfl, rfl⟩, fun w2 => equal_ptr hu _ _ (.inl rfl) w2⟩
  · cases h; unfold CRel at hx hy; obtain ⟨b, c, _, rfl⟩ := hx; subst hy
    exact ⟨⟨_, _, rfl, rfl⟩, fun w2 => equal_ptr hu _ _ (.inr rfl) w2⟩
  · cases h; unfold CRel at hx hy; obtain ⟨b, c, _, rfl⟩ := hy; subst hx
    exact ⟨⟨_, _, rfl, rfl⟩, fun w2 => equal_ptr hu _ _ (.inl rfl) w2⟩
  · cases h; unfold CRel at hx hy; obtain ⟨b, c, rfl, _⟩ := hx; subst hy
    exact ⟨⟨_, _, rfl, rfl⟩, fun w2 => equal_ptr hu _ _ (.inr rfl) w2⟩
  · cases h

theorem equalIn_slice {t el : TypeId} (hu : P.underlying t = some (.slice el)) (d : Nat) (p : Option Addr) (n c : Nat) (w2 : World) :
    (Op.equalIn (d + 1) t (.slice p n c) (.slice none 0 0)).run P w2 = .ok p.isNone w2 := by
  cases p <;> simp [Op.equalIn, run_underlying hu]
theorem equal_slice {t el : TypeId} (hu : P.underlying t = some (.slice el)) (p : Option Addr) (n c : Nat) (w2 : World) :
    (Op.equal t (.slice p n c) (.slice none 0 0)).run P w2 = .ok p.isNone w2 := equalIn_slice hu 9999 p n c w2

theorem eqS_rel {x y z : AV} {u v : Value} {t el : TypeId} (hu : P.underlying t = some (.slice el)) (h : eqS x y = some z) (hx : CRel R w I x u) (hy : CRel R w I y v) :
    ∃ b, (∃ p n c, u = .slice p n c ∧ v = .slice none 0 0) ∧ CRel R w I z (.bool b) ∧ (z = .bool b ∨ z = .anyb) ∧ ∀ w2, (Op.equal t u v).run P w2 = .ok b w2 := by
  unfold eqS at h
  split at h
  · cases h; unfold CRel at hx hy; subst hx; subst hy
    exact ⟨true, ⟨_, _, _, rfl, rfl⟩, by unfold CRel; rfl, .inl rfl, fun w2 => equal_slice hu _ _ _ w2⟩
  · rename_i sz n f
    cases h
    unfold CRel at hx hy; subst hy
    obtain ⟨A, c, rfl, _, _, h2⟩ := hx
    refine ⟨A.isNone, ⟨_, _, _, rfl, rfl⟩, ?_, ?_, fun w2 => equal_slice hu _ _ _ w2⟩
    · split
      · rename_i hn
        obtain ⟨b, o, rfl, _⟩ := h2 hn
        unfold CRel; rfl
      · unfold CRel; exact ⟨_, rfl⟩
    · split
      · rename_i hn
        obtain ⟨b, o, rfl, _⟩ := h2 hn
        exact .inl rfl
      · exact .inr rfl
  · cases h

theorem binOp_eql_slice (t : TypeId) (p q : Option Addr) (n c n' c' : Nat) : binOp .eql t (.slice p n c) (.slice q n' c') = (do pure (.bool (← Op.equal t (.slice p n c) (.slice q n' c')))) := by unfold binOp; rfl
theorem binOp_neq_slice (t : TypeId) (p q : Option Addr) (n c n' c' : Nat) : binOp .neq t (.slice p n c) (.slice q n' c') = (do pure (.bool (!(← Op.equal t (.slice p n c) (.slice q n' c'))))) := by unfold binOp; rfl
theorem binOp_eql_ptr (t : TypeId) (p q : Option Addr) : binOp .eql t (.pointer p) (.pointer q) = (do pure (.bool (← Op.equal t (.pointer p) (.pointer q)))) := by unfold binOp; rfl
theorem binOp_neq_ptr (t : TypeId) (p q : Option Addr) : binOp .neq t (.pointer p) (.pointer q) = (do pure (.bool (!(← Op.equal t (.pointer p) (.pointer q))))) := by unfold binOp; rfl
theorem binOp_eql_bool (t : TypeId) (p q : Bool) : binOp .eql t (.bool p) (.bool q) = (do pure (.bool (← Op.equal t (.bool p) (.bool q)))) := by unfold binOp; rfl
theorem binOp_neq_bool (t : TypeId) (p q : Bool) : binOp .neq t (.bool p) (.bool q) = (do pure (.bool (!(← Op.equal t (.bool p) (.bool q))))) := by unfold binOp; rfl

theorem q_bin {t yt : TypeId} {bop : BinOp} {x y : Operand} {op : IOp} (hc : cBin P bop t x y = some op) (hr : aop op e e0 h = some r) (hsc : r.sc)
    (he : ∀ x z, opdOf x = some z → z ∈ op.opds → CRel R w I (e z) (a.eval x)) : fin P ⟨dst, .binOp bop t x y yt, ty, pos, after, guard⟩ a R w I mem names r h := by
  unfold cBin at hc
  split at hc
  · rename_i x' y' hx hy
    have two : ∀ (z : Option IOp), z = some (.bin bop x' y') → some op = z → fin P ⟨dst, .binOp bop t x y yt, ty, pos, after, guard⟩ a R w I mem names r h := by
      intro z hz hz'
      rw [hz] at hz'
      cases hz'
      simp only [aop, Option.map_eq_some_iff] at hr
      obtain ⟨⟨p, z⟩, hp, rfl⟩ := hr
      obtain ⟨v, hv, hcr⟩ := bin_rel (P := P) (t := t) x y hp hsc (he x x' hx (by simp [IOp.opds])) (he y y' hy (by simp [IOp.opds]))
      refine fin_of rfl (fun w2 => ?_) hcr
      have := hv w2
      simp only [execOp]
      rw [Sem.run_bind, this]; rfl
    split at hc
    · exact two _ rfl hc.symm
    · exact two _ rfl hc.symm
    · rename_i hu
      have key : ∀ n, op = .eqb n x' y' → bop = (if n then .neq else .eql) → fin P ⟨dst, .binOp bop t x y yt, ty, pos, after, guard⟩ a R w I mem names r h := by
        intro n hop hb
        subst hop
        have h1 := he x x' hx (by simp [IOp.opds])
        have h2 := he y y' hy (by simp [IOp.opds])
        simp only [aop] at hr
        split at hr
        · rename_i p q hp hq
          cases hr
          rw [hp] at h1; rw [hq] at h2
          unfold CRel at h1 h2
          refine fin_of rfl (v := .bool (neg n (p == q))) (fun w2 => ?_) (by unfold CRel; rfl)
          simp only [execOp, h1, h2, Sem.run_bind, eqGuard_bool, Result.andThen_ok]
          cases n <;> simp only [Bool.false_eq_true, if_false, if_true] at hb <;> subst hb <;> simp [binOp_eql_bool, binOp_neq_bool, equal_bool hu, neg]
        · cases hr
      split at hc
      · rename_i hb; cases hc; exact key false rfl hb
      · split at hc
        · rename_i hb; cases hc; exact key true rfl hb
        · cases hc
    · rename_i el hu
      have key : ∀ n, op = .eqp n x' y' → bop = (if n then .neq else .eql) → fin P ⟨dst, .binOp bop t x y yt, ty, pos, after, guard⟩ a R w I mem names r h := by
        intro n hop hb
        subst hop
        have h1 := he x x' hx (by simp [IOp.opds])
        have h2 := he y y' hy (by simp [IOp.opds])
        simp only [aop, Option.map_eq_some_iff] at hr
        obtain ⟨b, hb2, rfl⟩ := hr
        obtain ⟨⟨p, q, hp, hq⟩, heq⟩ := eqP_rel hu hb2 h1 h2
        refine fin_of rfl (v := .bool (neg n b)) (fun w2 => ?_) (by unfold CRel; rfl)
        have heq2 := heq w2
        simp only [execOp, Sem.run_bind]
        rw [hp, hq] at heq2 ⊢
        simp only [eqGuard_ptr, Result.andThen_ok]
        cases n <;> simp only [Bool.false_eq_true, if_false, if_true] at hb <;> subst hb <;> simp [binOp_eql_ptr, binOp_neq_ptr, heq2, neg]
      split at hc
      · rename_i hb; cases hc; exact key false rfl hb
      · split at hc
        · rename_i hb; cases hc; exact key true rfl hb
        · cases hc
    · rename_i el hu
      have key : ∀ n, op = .eqs n x' y' → bop = (if n then .neq else .eql) → fin P ⟨dst, .binOp bop t x y yt, ty, pos, after, guard⟩ a R w I mem names r h := by
        intro n hop hb
        subst hop
        have h1 := he x x' hx (by simp [IOp.opds])
        have h2 := he y y' hy (by simp [IOp.opds])
        simp only [aop, Option.map_eq_some_iff] at hr
        obtain ⟨z, hb2, rfl⟩ := hr
        obtain ⟨b, ⟨p, m, c, hp, hq⟩, hcr, hz, heq⟩ := eqS_rel hu hb2 h1 h2
        refine fin_of rfl (v := .bool (neg n b)) (fun w2 => ?_) ?_
        · have heq2 := heq w2
          simp only [execOp, Sem.run_bind]
          rw [hp, hq] at heq2 ⊢
          simp only [eqGuard_slice, Result.andThen_ok]
          cases n <;> simp only [Bool.false_eq_true, if_false, if_true] at hb <;> subst hb <;> simp [binOp_eql_slice, binOp_neq_slice, heq2, neg]
        · rcases hz with rfl | rfl
          · unfold negV CRel; rfl
          · unfold negV CRel; exact ⟨_, rfl⟩
      split at hc
      · rename_i hb; cases hc; exact key false rfl hb
      · split at hc
        · rename_i hb; cases hc; exact key true rfl hb
        · cases hc
    · cases hc
  · cases hc
end
end
end Go.AM
