/- A part of the proof: lemmas. -/
import Derived.Test.YtdoekadmocabdaaAM5
set_option linter.unusedVariables false
set_option linter.unusedSimpArgs false
namespace Go.AM
section
variable {P : Program} {R : RL} {w : World} {I : Nat → Prop}
variable {a : Act} {e e0 : Opd → AV} {h : List AO} {r : SR} {dst : Option Tmp} {ty : TypeId} {pos : String} {after : Array Edge} {guard : Option (Nat × Bool)} {names : List Nat} {mem : Bool}

theorem run_fieldAt {t f off : Nat} {ft : TypeId} {i : TypeInfo} (hf : fieldOf P t f = some (off, ft)) (hi : P.info? ft = some i) (h0 : i.size ≠ 0) (b o : Nat) (w2 : World) :
    (Instr.fieldAt t (.pointer (some ⟨b, o, none⟩)) f).run P w2 = .ok (.pointer (some ⟨b, o + off, none⟩)) w2 := by
  obtain ⟨fs, fx, hu, hfx, ho, ht⟩ := fieldOf_eq hf
  subst ht; subst ho
  simp [Instr.fieldAt, run_underlying hu, hfx, Instr.sureAddr, fieldPlace, run_sizeOf hi, h0, Addr.add_lit]

theorem q_faddr {t f off : Nat} {ft : TypeId} {i : TypeInfo} {x : Operand} {x' : Opd} (hf : fieldOf P t f = some (off, ft)) (hi : P.info? ft = some i) (h0 : i.size ≠ 0) (hx : opdOf x = some x') (hr : aop (.faddr off x') e e0 h = some r) (hsc : r.sc)
    (he : ∀ x z, opdOf x = some z → z ∈ (IOp.faddr off x').opds → CRel R w I (e z) (a.eval x)) : fin P ⟨dst, .fieldAddr t x f, ty, pos, after, guard⟩ a R w I mem names r h := by
  have h1 := he x x' hx (by simp [IOp.opds])
  simp only [aop] at hr
  split at hr
  · rename_i n o ho
    cases hr
    rw [ho] at h1
    unfold CRel at h1
    obtain ⟨b, c, hR, hv⟩ := h1
    refine fin_of rfl (v := .pointer (some ⟨b, o + off, none⟩)) (fun w2 => ?_) (by unfold CRel; exact ⟨b, c, hR, rfl⟩)
    simp [execOp, hv, run_fieldAt hf hi h0]
  · rename_i n s q j ho
    cases hr
    rw [ho] at h1
    unfold CRel at h1
    obtain ⟨b, c, hR, hv⟩ := h1
    refine fin_of rfl (v := .pointer (some ⟨b, q * s + j + off, none⟩)) (fun w2 => ?_) (by unfold CRel; exact ⟨b, c, hR, by rw [Nat.add_assoc]⟩)
    simp [execOp, hv, run_fieldAt hf hi h0]
  · rename_i m k ho
    cases hr
    rw [ho] at h1
    unfold CRel at h1
    obtain ⟨b, o, hv, hI, hk⟩ := h1
    have hm : off ≤ m := hsc
    refine fin_of rfl (v := .pointer (some ⟨b, o + off, none⟩)) (fun w2 => ?_) ?_
    · simp [execOp, hv, run_fieldAt hf hi h0]
    · unfold CRel
      refine ⟨b, o + off, rfl, hI, fun j hj => ?_⟩
      rw [Nat.add_assoc]
      exact hk (off + j) (by omega)
  · cases hr

theorem run_indexAt {t el s b : Nat} (hes : elemSz P t = some (el, s, b)) {ad : Addr} {n c : Nat} {k : IntKind} {i : Int} (h0 : 0 ≤ i) (h1 : i < n) (w2 : World) :
    (Instr.indexAt t (.slice (some ad) n c) (.int k i)).run P w2 = .ok (.pointer (some (ad.add (i.toNat * s)))) w2 := by
  obtain ⟨hu, inf, hi2, hs, _⟩ := elemSz_eq hes
  simp [Instr.indexAt, asIntOf, run_underlying hu, h0, h1, run_sizeOf hi2, hs]

theorem q_iaddr {t el s b : Nat} {x i : Operand} {x' i' : Opd} (hes : elemSz P t = some (el, s, b)) (hx : opdOf x = some x') (hi : opdOf i = some i') (hr : aop (.iaddr s x' i') e e0 h = some r) (hsc : r.sc)
    (he : ∀ x z, opdOf x = some z → z ∈ (IOp.iaddr s x' i').opds → CRel R w I (e z) (a.eval x)) : fin P ⟨dst, .indexAddr t x i, ty, pos, after, guard⟩ a R w I mem names r h := by
  have h1 := he x x' hx (by simp [IOp.opds])
  have h2 := he i i' hi (by simp [IOp.opds])
  simp only [aop] at hr
  split at hr
  · rename_i s' n f k v hxe hie
    split at hr
    · rename_i hss
      subst hss
      cases hr
      obtain ⟨hv0, hv1⟩ : 0 ≤ v ∧ v < (n : Int) := hsc
      rw [hxe] at h1; rw [hie] at h2
      unfold CRel at h1 h2
      obtain ⟨A, c, hv, hnc, hm, hcell⟩ := h1
      obtain ⟨bb, o, rfl, hI, hc2⟩ := hcell (by omega)
      refine fin_of rfl (v := .pointer (some ⟨bb, o + v.toNat * s', none⟩)) (fun w2 => ?_) ?_
      · simp [execOp, hv, h2, run_indexAt hes hv0 hv1, Addr.add_lit]
      · unfold CRel
        refine ⟨bb, o + v.toNat * s', rfl, hI, fun j hj => ?_⟩
        rw [Nat.add_assoc]
        exact hc2 v.toNat j (by omega) hj
    · cases hr
  · rename_i kk s' n k v hxe hie
    split at hr
    · rename_i hss
      subst hss
      cases hr
      obtain ⟨hv0, hv1⟩ : 0 ≤ v ∧ v < (n : Int) := hsc
      rw [hxe] at h1; rw [hie] at h2
      unfold CRel at h1 h2
      rcases h1 with ⟨_, hn, _⟩ | ⟨bb, c, hR, hnc, hv⟩
      · omega
      · refine fin_of rfl (v := .pointer (some ⟨bb, v.toNat * s', none⟩)) (fun w2 => ?_) ?_
        · simp [execOp, hv, h2, run_indexAt hes hv0 hv1, Addr.add_lit]
        · unfold CRel
          exact ⟨bb, c, hR, by simp⟩
    · cases hr
  · cases hr

theorem q_len {c : Call} {x : Operand} {x' : Opd} {tys : Array TypeId} {t0 el : TypeId} (hc : c = { callee := .builtin .len, args := #[x], argTypes := tys }) (hx : opdOf x = some x')
    (h0 : tys[0]? = some t0) (hd : P.underlying t0 = some (.slice el)) (hr : aop (.len x') e e0 h = some r) (he : ∀ x z, opdOf x = some z → z ∈ (IOp.len x').opds → CRel R w I (e z) (a.eval x)) :
    fin P ⟨dst, .call c, ty, pos, after, guard⟩ a R w I mem names r h := by
  subst hc
  have h1 := he x x' hx (by simp [IOp.opds])
  have fin2 : ∀ {n : Nat}, (∀ w2, (Builtin.len_ tys ty #[a.eval x]).run P w2 = .ok (.int .i64 n) w2) → r = ⟨True, .int .i64 n, h⟩ → fin P ⟨dst, .call { callee := .builtin .len, args := #[x], argTypes := tys }, ty, pos, after, guard⟩ a R w I mem names r h := by
    intro n hrun hr
    subst hr
    refine fin_of rfl (v := .int .i64 n) (fun w2 => ?_) (by unfold CRel; rfl)
    simp [execOp, resolve, invoke, builtin, hrun]
  simp only [aop] at hr
  split at hr
  · rename_i s n f hxe
    cases hr
    rw [hxe] at h1; unfold CRel at h1
    obtain ⟨A, cc, hv, _⟩ := h1
    exact fin2 (n := n) (fun w2 => by simp [Builtin.len_, h0, hv, run_underlying hd, goInt]) rfl
  · rename_i k s n hxe
    cases hr
    rw [hxe] at h1; unfold CRel at h1
    rcases h1 with ⟨_, hn, hv⟩ | ⟨bb, cc, _, _, hv⟩
    · subst hn
      exact fin2 (n := 0) (fun w2 => by simp [Builtin.len_, h0, hv, run_underlying hd, goInt]) rfl
    · exact fin2 (n := n) (fun w2 => by simp [Builtin.len_, h0, hv, run_underlying hd, goInt]) rfl
  · rename_i hxe
    cases hr
    rw [hxe] at h1; unfold CRel at h1
    exact fin2 (n := 0) (fun w2 => by simp [Builtin.len_, h0, h1, run_underlying hd, goInt]) rfl
  · cases hr

theorem q_slen {c : Call} {x : Operand} {x' : Opd} {tys : Array TypeId} {t0 : TypeId} (hc : c = { callee := .builtin .len, args := #[x], argTypes := tys }) (hx : opdOf x = some x')
    (h0 : tys[0]? = some t0) (hd : P.underlying t0 = some .string) (hr : aop (.slen x') e e0 h = some r) (he : ∀ x z, opdOf x = some z → z ∈ (IOp.slen x').opds → CRel R w I (e z) (a.eval x)) :
    fin P ⟨dst, .call c, ty, pos, after, guard⟩ a R w I mem names r h := by
  subst hc
  have h1 := he x x' hx (by simp [IOp.opds])
  simp only [aop] at hr
  split at hr
  · rename_i l hxe
    cases hr
    rw [hxe] at h1; unfold CRel at h1
    obtain ⟨hv, hl⟩ := h1
    have hsz : (strOf l).size = l.length := by simp [strOf, ByteArray.size]
    refine fin_of rfl (v := .int .i64 l.length) (fun w2 => ?_) (by unfold CRel; rfl)
    simp [execOp, resolve, invoke, builtin, Builtin.len_, h0, hv, run_underlying hd, goInt, hsz]
  · cases hr

theorem q_ext {x : Operand} {x' : Opd} {i : Nat} (hx : opdOf x = some x') (hr : aop (.ext x' i) e e0 h = some r) (hsc : r.sc)
    (he : ∀ x z, opdOf x = some z → z ∈ (IOp.ext x' i).opds → CRel R w I (e z) (a.eval x)) : fin P ⟨dst, .extract x i, ty, pos, after, guard⟩ a R w I mem names r h := by
  have h1 := he x x' hx (by simp [IOp.opds])
  simp only [aop] at hr
  split at hr
  · rename_i l hl
    cases hr
    rw [hl] at h1; unfold CRel at h1
    obtain ⟨cs, hv, hcs⟩ := h1
    have hlt : i < l.length := hsc
    obtain ⟨v, hvv, hcr⟩ := hcs.get i l[i] (List.getElem?_eq_getElem hlt)
    refine fin_of rfl (v := v) (fun w2 => ?_) ?_
    · simp only [Array.getElem?_toList] at hvv
      simp [execOp, hv, Instr.extract, hvv]
    · show CRel R w I (l.getD i .und) v
      rw [List.getD_eq_getElem?_getD, List.getElem?_eq_getElem hlt]; exact hcr
  · cases hr

theorem q_mkf {fn : Fn} {first caps : Array Operand} {op : IOp} (hc : cMkf fn first caps = some op) (hr : aop op e e0 h = some r)
    (he : ∀ x z, opdOf x = some z → z ∈ op.opds → CRel R w I (e z) (a.eval x)) : fin P ⟨dst, .makeFunc fn first caps, ty, pos, after, guard⟩ a R w I mem names r h := by
  unfold cMkf at hc
  split at hc
  · rename_i f
    split at hc
    · rename_i h0
      simp only [Option.map_eq_some_iff] at hc
      obtain ⟨os, hos, rfl⟩ := hc
      simp only [aop, Option.some.injEq] at hr; subst hr
      have := mapM_opds (allS_eq hos) fun x y h1 h2 => he x y h1 h2
      refine fin_of rfl (v := .func (.func f) #[] (caps.map a.eval)) (fun w2 => ?_) ?_
      · obtain rfl : first = #[] := Array.eq_empty_of_size_eq_zero h0
        simp [execOp, Instr.makeFunc]
      · unfold CRel; exact ⟨_, rfl, by simpa using this⟩
    · cases hc
  · cases hc

theorem q_mx {c : Call} {x y : Operand} {x' y' : Opd} {tys : Array TypeId} (hc : c = { callee := .builtin .max, args := #[x, y], argTypes := tys }) (hx : opdOf x = some x') (hy : opdOf y = some y')
    (hr : aop (.mx x' y') e e0 h = some r) (he : ∀ x z, opdOf x = some z → z ∈ (IOp.mx x' y').opds → CRel R w I (e z) (a.eval x)) : fin P ⟨dst, .call c, ty, pos, after, guard⟩ a R w I mem names r h := by
  subst hc
  have h1 := he x x' hx (by simp [IOp.opds])
  have h2 := he y y' hy (by simp [IOp.opds])
  simp only [aop] at hr
  split at hr
  · rename_i k p k' q hp hq
    cases hr
    rw [hp] at h1; rw [hq] at h2
    unfold CRel at h1 h2
    refine fin_of rfl (v := .int k (if q > p then q else p)) (fun w2 => ?_) (by unfold CRel; rfl)
    simp [execOp, resolve, invoke, builtin, Builtin.max_, Builtin.max2, h1, h2]
  · cases hr

theorem q_mn {c : Call} {x y : Operand} {x' y' : Opd} {tys : Array TypeId} (hc : c = { callee := .builtin .min, args := #[x, y], argTypes := tys }) (hx : opdOf x = some x') (hy : opdOf y = some y')
    (hr : aop (.mn x' y') e e0 h = some r) (he : ∀ x z, opdOf x = some z → z ∈ (IOp.mn x' y').opds → CRel R w I (e z) (a.eval x)) : fin P ⟨dst, .call c, ty, pos, after, guard⟩ a R w I mem names r h := by
  subst hc
  have h1 := he x x' hx (by simp [IOp.opds])
  have h2 := he y y' hy (by simp [IOp.opds])
  simp only [aop] at hr
  split at hr
  · rename_i k p k' q hp hq
    cases hr
    rw [hp] at h1; rw [hq] at h2
    unfold CRel at h1 h2
    refine fin_of rfl (v := .int k (if q < p then q else p)) (fun w2 => ?_) (by unfold CRel; rfl)
    simp [execOp, resolve, invoke, builtin, Builtin.min_, Builtin.min2, h1, h2]
  · cases hr

/-- What a quiet operation yields. -/
theorem quiet_sound {o : Oper} {op : IOp} (hc : cOp P o = some op) (hq : op.quiet = true) (hr : aop op e e0 h = some r) (hsc : r.sc)
    (he : ∀ x z, opdOf x = some z → z ∈ op.opds → CRel R w I (e z) (a.eval x)) (he0 : ∀ x y, opdOf x = some y → CRel R w I (e0 y) (a.eval x)) (hh : ∀ n o, h[n]? = some o → ORel R w I n o) :
    fin P o a R w I op.mem (aNames op e) r h := by
  obtain ⟨dst, op', ty, pos, after, guard⟩ := o
  cases op' <;> simp only [cOp] at hc
  case move x =>
    obtain ⟨y, hy, rfl⟩ := Option.map_eq_some_iff.1 hc
    exact q_mv (.inl rfl) hy hr he
  case assign x =>
    obtain ⟨y, hy, rfl⟩ := Option.map_eq_some_iff.1 hc
    exact q_mv (.inr rfl) hy hr he
  case pick c x y =>
    split at hc
    · cases hc; exact q_pick (by assumption) (by assumption) (by assumption) hr hsc he he0
    · cases hc
  case alloc => obtain ⟨y, hy, rfl⟩ := Option.map_eq_some_iff.1 hc; simp [IOp.quiet] at hq
  case box => obtain ⟨y, hy, rfl⟩ := Option.map_eq_some_iff.1 hc; simp [IOp.quiet] at hq
  case build t parts =>
    exact q_build hc hr hsc he
  case buildSlice t len parts =>
    unfold cBslice at hc
    split at hc
    · split at hc
      · cases hc; simp [IOp.quiet] at hq
      · cases hc
    · cases hc
  case load t x =>
    split at hc
    · cases hc; exact q_load (by assumption) (by assumption) hr hsc he hh
    · cases hc
  case store t x y =>
    split at hc
    · cases hc; simp [IOp.quiet] at hq
    · cases hc
  case nilCheck x =>
    obtain ⟨y, hy, rfl⟩ := Option.map_eq_some_iff.1 hc
    exact q_nilck hy hr he
  case binOp bop t x y yt => exact q_bin hc hr hsc he
  case unOp uop t x =>
    split at hc
    · rename_i hu
      subst hu
      obtain ⟨y, hy, rfl⟩ := Option.map_eq_some_iff.1 hc
      exact q_not hy hr he
    · cases hc
  case convert s d x =>
    obtain ⟨h1, v, h2, h3⟩ := q_conv (dst := dst) (ty := ty) (pos := pos) (after := after) (guard := guard) hc hq hr hsc he
    have hn : aNames op e = [] := by
      unfold cConv at hc
      (repeat' split at hc)
      all_goals first | (cases hc; done) | (cases hc; rfl)
    exact ⟨h1, v, fun w2 hw => h2 w2 fun hm => by rw [← hn]; exact hw hm, h3⟩
  case slice t x lo hi mx => exact q_slice hc hr hsc he
  case field t x f =>
    split at hc
    · obtain ⟨s, hs, rfl⟩ := Option.map_eq_some_iff.1 hc
      exact q_fld (by assumption) hs (by assumption) hr hsc he
    · cases hc
  case fieldAddr t x f =>
    split at hc
    · split at hc
      · split at hc
        · cases hc
        · cases hc
          exact q_faddr (by assumption) (by assumption) (by assumption) (by assumption) hr hsc he
      · cases hc
    · cases hc
  case indexAddr t x i =>
    split at hc
    · cases hc
      exact q_iaddr (by assumption) (by assumption) (by assumption) hr hsc he
    · cases hc
  case extract x i =>
    obtain ⟨y, hy, rfl⟩ := Option.map_eq_some_iff.1 hc
    exact q_ext hy hr hsc he
  case range t x =>
    split at hc
    · cases hc; simp [IOp.quiet] at hq
    · cases hc
  case next x s =>
    split at hc
    · cases hc; simp [IOp.quiet] at hq
    · cases hc
  case makeFunc fn first caps => exact q_mkf hc hr he
  case call c =>
    obtain ⟨callee, args, tys⟩ := c
    unfold cCall at hc
    split at hc
    · rename_i os hos
      have hos' := allS_eq hos
      have one : ∀ {z : Opd}, os = [z] → ∃ x, args = #[x] ∧ opdOf x = some z := by
        intro z hz
        subst hz
        have hl : args.toList.length = 1 := by simpa using congrArg List.length hos'
        obtain ⟨x, hx⟩ := List.length_eq_one_iff.1 hl
        rw [hx] at hos'
        refine ⟨x, ?_, by simpa using hos'⟩
        apply Array.ext'; simpa using hx
      have two : ∀ {z z' : Opd}, os = [z, z'] → ∃ x x', args = #[x, x'] ∧ opdOf x = some z ∧ opdOf x' = some z' := by
        intro z z' hz
        subst hz
        have hl : args.toList.length = 2 := by simpa using congrArg List.length hos'
        obtain ⟨x, x', hx⟩ : ∃ x x', args.toList = [x, x'] := by
          match hargs : args.toList, hl with
          | [x, x'], _ => exact ⟨x, x', rfl⟩
        rw [hx] at hos'
        refine ⟨x, x', ?_, by simpa using hos'⟩
        apply Array.ext'; simpa using hx
      have first : ∀ {n : Nat}, n = tys.size → ¬ n = 0 → tys[0]? = some (tys.getD 0 0) := by
        intro n hn h0
        have : 0 < tys.size := by omega
        simp [Array.getD, this]
      cases callee with
      | builtin b =>
        simp only at hc
        unfold cBuiltin at hc
        split at hc
        · split at hc
          · split at hc
            · cases hc; simp [IOp.quiet] at hq
            · cases hc
          · cases hc
        · split at hc
          · split at hc
            · cases hc
            · cases hc
              obtain ⟨x, rfl, hx⟩ := one rfl
              exact q_slen rfl hx (first rfl (by assumption)) (by assumption) hr he
          · split at hc
            · cases hc
            · cases hc
              obtain ⟨x, rfl, hx⟩ := one rfl
              exact q_len rfl hx (first rfl (by assumption)) (by assumption) hr he
          · cases hc
        · cases hc
          obtain ⟨x, y, rfl, hx, hy⟩ := two rfl
          exact q_mx rfl hx hy hr he
        · cases hc
          obtain ⟨x, y, rfl, hx, hy⟩ := two rfl
          exact q_mn rfl hx hy hr he
        · cases hc
      | value g =>
        cases g with
        | func f => simp only at hc; split at hc <;> cases hc; simp [IOp.quiet] at hq
        | tmp t => obtain ⟨y, hy, rfl⟩ := Option.map_eq_some_iff.1 hc; simp [IOp.quiet] at hq
        | const t => obtain ⟨y, hy, rfl⟩ := Option.map_eq_some_iff.1 hc; simp [IOp.quiet] at hq
        | global t => obtain ⟨y, hy, rfl⟩ := Option.map_eq_some_iff.1 hc; simp [IOp.quiet] at hq
      | invoke r m => simp at hc
    · cases hc
  all_goals (cases hc)
end
end Go.AM
