/- A part of the proof: lemmas. -/
import Derived.Test.YtdoekadmocabdaaAM4
set_option linter.unusedVariables false
set_option linter.unusedSimpArgs false
namespace Go.AM
section
variable {P : Program} {R : RL} {w : World} {I : Nat → Prop}
variable {a : Act} {e e0 : Opd → AV} {h : List AO} {r : SR} {dst : Option Tmp} {ty : TypeId} {pos : String} {after : Array Edge} {guard : Option (Nat × Bool)} {names : List Nat} {mem : Bool}

theorem q_not {t : TypeId} {x : Operand} {x' : Opd} (hx : opdOf x = some x') (hr : aop (.not x') e e0 h = some r)
    (he : ∀ x z, opdOf x = some z → z ∈ (IOp.not x').opds → CRel R w I (e z) (a.eval x)) : fin P ⟨dst, .unOp .not t x, ty, pos, after, guard⟩ a R w I mem names r h := by
  have h1 := he x x' hx (by simp [IOp.opds])
  simp only [aop] at hr
  split at hr
  · rename_i b hb
    cases hr
    rw [hb] at h1
    unfold CRel at h1
    refine fin_of rfl (v := .bool (!b)) (fun w2 => ?_) (by unfold CRel; rfl)
    simp [execOp, h1, Op.unary]
  · cases hr

theorem isU8_eq {d : Option TypeDesc} (h : isU8 d = true) : d = some (.int .u8) := by
  unfold isU8 at h
  split at h
  · rfl
  · cases h

theorem q_conv {s d : TypeId} {x : Operand} {op : IOp} (hc : cConv P s d x = some op) (hq : op.quiet = true) (hr : aop op e e0 h = some r) (hsc : r.sc)
    (he : ∀ x z, opdOf x = some z → z ∈ op.opds → CRel R w I (e z) (a.eval x)) : fin P ⟨dst, .convert s d x, ty, pos, after, guard⟩ a R w I op.mem [] r h := by
  unfold cConv at hc
  split at hc
  · rename_i x' hx
    split at hc
    · rename_i k0 k hs hd
      cases hc
      have h1 := he x x' hx (by simp [IOp.opds])
      simp only [aop] at hr
      split at hr
      · rename_i k1 n hn
        cases hr
        rw [hn] at h1
        unfold CRel at h1
        refine fin_of rfl (v := .int k (k.wrap n)) (fun w2 => ?_) (by unfold CRel; rfl)
        simp [execOp, h1, convert, run_underlying hs, run_underlying hd, Conv.intToInt]
      · cases hr
    · rename_i e1 hs hd
      split at hc
      · rename_i hu
        cases hc
        have hu := isU8_eq hu
        have h1 := he x x' hx (by simp [IOp.opds])
        simp only [aop] at hr
        split at hr
        · rename_i sz n f hf
          split at hr
          · rename_i h1s
            subst h1s
            cases hr
            rw [hf] at h1
            unfold CRel at h1
            obtain ⟨A, c, hv, hnc, hm, hcell⟩ := h1
            have hb : ∀ i, i < n → isB (f i 0) := hsc
            refine ⟨rfl, .string (strOf (tabI n f)), fun w2 hw => ?_, by unfold CRel; exact ⟨rfl, tabI_range hb⟩⟩
            simp only [execOp, hv, Sem.run_bind]
            rcases Nat.eq_zero_or_pos n with h0 | h0
            · subst h0
              cases A with
              | none =>
                rw [run_convert_bytes_nil w2 s e1 hs hu 0 c d hd]
                simp [tabI, strOf, ByteArray.empty, ByteArray.emptyWithCapacity]; rfl
              | some ad =>
                rw [run_convert_bytes_string w2 s d e1 (some ad) 0 c hs hu hd]
                simp [Conv.bytesToString, loadCells, loadCellsFrom, tabI, strOf, ByteArray.empty, ByteArray.emptyWithCapacity]; rfl
            · obtain ⟨b, o, rfl, hI, hc2⟩ := hcell h0
              have := run_convert_bytes_arg (P := P) w2 s e1 hs hu b o n c (tabI n f) (by simp [tabI]) (fun i hi => (cell_ext ((hw rfl).i rfl b hI)).trans (psl_bytes hb hc2 i hi)) d hd
              rw [this, strOf_nums]
              simp
          · cases hr
        · rename_i hf
          cases hr
          rw [hf] at h1
          unfold CRel at h1
          refine ⟨rfl, .string (strOf []), fun w2 hw => ?_, by unfold CRel; exact ⟨rfl, by simp⟩⟩
          simp only [execOp, h1, Sem.run_bind]
          rw [run_convert_bytes_nil w2 s e1 hs hu 0 0 d hd]
          simp [strOf, ByteArray.empty, ByteArray.emptyWithCapacity]; rfl
        · cases hr
      · cases hc
    · split at hc
      · cases hc; simp [IOp.quiet] at hq
      · cases hc
    · cases hc
  · cases hc

theorem run_sizeOf {t : TypeId} {i : TypeInfo} (hi : P.info? t = some i) (w2 : World) : (sizeOf t).run P w2 = .ok i.size w2 := by simp [sizeOf, typeInfo, hi]

theorem elemSz_eq {t el s b : Nat} (h : elemSz P t = some (el, s, b)) : P.underlying t = some (.slice el) ∧ ∃ i, P.info? el = some i ∧ i.size = s ∧ i.bytes = b := by
  unfold elemSz at h
  split at h
  · rename_i e1 hu
    cases hi : P.info? e1 with
    | none => simp [hi] at h
    | some i =>
      simp [hi] at h
      obtain ⟨rfl, rfl, rfl⟩ := h
      exact ⟨hu, i, hi, rfl, rfl⟩
  · cases h

theorem optOpd_rel {lo : Option Operand} {lo' : Option Opd} (h : optOpd lo = some lo') (he : ∀ x z, opdOf x = some z → z ∈ lo'.toList → CRel R w I (e z) (a.eval x)) :
    (lo = none ∧ lo' = none) ∨ ∃ x y, lo = some x ∧ lo' = some y ∧ CRel R w I (e y) (a.eval x) := by
  cases lo with
  | none => simp [optOpd] at h; exact .inl ⟨rfl, h.symm⟩
  | some x =>
    simp [optOpd] at h
    obtain ⟨y, hy, rfl⟩ := h
    exact .inr ⟨x, y, rfl, rfl, he x y hy (by simp)⟩

/-- Bounds inside the length. -/
theorem bounds_run {lo hi : Option Value} {n c l q : Nat} (hl : (lo = none ∧ l = 0) ∨ ∃ k v, lo = some (.int k v) ∧ 0 ≤ v ∧ v.toNat = l) (hh : (hi = none ∧ q = n) ∨ ∃ k v, hi = some (.int k v) ∧ 0 ≤ v ∧ v.toNat = q)
    (hlq : l ≤ q) (hqn : q ≤ n) (hnc : n ≤ c) (w2 : World) : (Instr.sliceBounds true n c lo hi none).run P w2 = .ok (l, q, c) w2 := by
  rcases hl with ⟨rfl, rfl⟩ | ⟨k, v, rfl, hv, rfl⟩ <;> rcases hh with ⟨rfl, rfl⟩ | ⟨k', v', rfl, hv', rfl⟩
  · simp [Instr.sliceBounds]
  · simp [Instr.sliceBounds, slice_bound hv' (show v' ≤ (c : Int) by omega)]
  · simp [Instr.sliceBounds, slice_bound hv (show v ≤ (q : Int) by omega)]
  · simp [Instr.sliceBounds, slice_bound hv' (show v' ≤ (c : Int) by omega), slice_bound hv (show v ≤ (v'.toNat : Int) by omega)]

theorem run_sliceAt {t el s b : Nat} (hes : elemSz P t = some (el, s, b)) {A : Option Addr} {n c l q : Nat} {lo hi : Option Value} (hb : ∀ w2, (Instr.sliceBounds true n c lo hi none).run P w2 = .ok (l, q, c) w2) (w2 : World) :
    (Instr.sliceAt t (.slice A n c) lo hi none).run P w2 = .ok (.slice (if c = l then A else A.map (·.add (l * s))) (q - l) (c - l)) w2 := by
  obtain ⟨hu, i, hi2, hs, _⟩ := elemSz_eq hes
  simp [Instr.sliceAt, run_underlying hu, Instr.slice, hb, run_sizeOf hi2, hs]

theorem q_slice {t : TypeId} {x : Operand} {lo hi mx : Option Operand} {op : IOp} (hc : cSlice P t x lo hi mx = some op) (hr : aop op e e0 h = some r) (hsc : r.sc)
    (he : ∀ x z, opdOf x = some z → z ∈ op.opds → CRel R w I (e z) (a.eval x)) : fin P ⟨dst, .slice t x lo hi mx, ty, pos, after, guard⟩ a R w I mem names r h := by
  unfold cSlice at hc
  split at hc
  · rename_i el s b x' lo' hi' hes hx hlo hhi
    cases hc
    simp only [aop, Option.map_eq_some_iff] at hr
    obtain ⟨⟨p, z⟩, hp, rfl⟩ := hr
    have h1 := he x x' hx (by simp [IOp.opds])
    have hL := optOpd_rel hlo fun y z hy hz => he y z hy (by simp only [IOp.opds, List.mem_cons, List.mem_append]; exact .inr (.inl hz))
    have hH := optOpd_rel hhi fun y z hy hz => he y z hy (by simp only [IOp.opds, List.mem_cons, List.mem_append]; exact .inr (.inr hz))
    have hsc' : p := hsc
    clear he hsc
    have mk : ∀ {v u : Value}, a.eval x = u → (∀ w2, (Instr.sliceAt t u (lo.map a.eval) (hi.map a.eval) none).run P w2 = .ok v w2) → CRel R w I z v → fin P ⟨dst, .slice t x lo hi none, ty, pos, after, guard⟩ a R w I mem names ⟨p, z, h⟩ h := by
      intro v u hu hrun hcr
      refine fin_of rfl (fun w2 => ?_) hcr
      simp only [execOp, Sem.run_bind, hu, Option.map_none, hrun w2, Result.andThen_ok, Sem.run_pure]
    unfold slc at hp
    split at hp
    · rename_i s' n f hxe
      split at hp
      · rename_i hss
        subst hss
        rw [hxe] at h1
        unfold CRel at h1
        obtain ⟨A, c, hv, hnc, hm, hcell⟩ := h1
        have sub : ∀ (l q : Nat), l ≤ q → q ≤ n → CRel R w I (.psl s' (q - l) (fun i => f (l + i))) (.slice (if c = l then A else A.map (·.add (l * s'))) (q - l) (c - l)) := by
          intro l q hlq hqn
          unfold CRel
          refine ⟨_, _, rfl, by omega, by omega, fun h0 => ?_⟩
          obtain ⟨b, o, rfl, hI, hc2⟩ := hcell (by omega)
          rw [if_neg (by omega)]
          refine ⟨b, o + l * s', by simp [Addr.add_lit], hI, fun i j hi hj => ?_⟩
          obtain ⟨u, hu, hr⟩ := hc2 (l + i) j (by omega) hj
          refine ⟨u, ?_, hr⟩
          rw [← hu, Nat.add_mul]
          congr 2; omega
        split at hp
        · rename_i hlo0 hhi0
          cases hp
          rcases hL with ⟨rfl, rfl⟩ | ⟨_, _, rfl, rfl, _⟩
          · rcases hH with ⟨rfl, rfl⟩ | ⟨_, _, rfl, rfl, _⟩
            · have := sub 0 n (by omega) (by omega)
              simp only [Nat.sub_zero, Nat.zero_add] at this
              exact mk hv (run_sliceAt hes (bounds_run (.inl ⟨rfl, rfl⟩) (.inl ⟨rfl, rfl⟩) (Nat.zero_le _) (Nat.le_refl _) hnc)) this
            · cases hhi0
          · cases hlo0
        · rename_i k v hlo0 hhi0
          cases hp
          rcases hL with ⟨rfl, rfl⟩ | ⟨xl, yl, rfl, rfl, hrl⟩
          · cases hlo0
          · rcases hH with ⟨rfl, rfl⟩ | ⟨_, _, rfl, rfl, _⟩
            · simp only [Option.map_some, Option.some.injEq] at hlo0
              rw [hlo0] at hrl
              unfold CRel at hrl
              obtain ⟨hs1, hs2⟩ := hsc'
              exact mk hv (run_sliceAt hes (bounds_run (.inr ⟨k, v, by simp [hrl], hs1, rfl⟩) (.inl ⟨rfl, rfl⟩) (by omega) (Nat.le_refl _) hnc)) (sub v.toNat n (by omega) (Nat.le_refl _))
            · cases hhi0
        · rename_i k v hlo0 hhi0
          cases hp
          rcases hL with ⟨rfl, rfl⟩ | ⟨xl, yl, rfl, rfl, hrl⟩
          · rcases hH with ⟨rfl, rfl⟩ | ⟨xh, yh, rfl, rfl, hrh⟩
            · cases hhi0
            · simp only [Option.map_some, Option.some.injEq] at hhi0
              rw [hhi0] at hrh
              unfold CRel at hrh
              obtain ⟨hs1, hs2⟩ := hsc'
              have := sub 0 v.toNat (by omega) (by omega)
              simp only [Nat.sub_zero, Nat.zero_add] at this
              exact mk hv (run_sliceAt hes (bounds_run (.inl ⟨rfl, rfl⟩) (.inr ⟨k, v, by simp [hrh], hs1, rfl⟩) (by omega) (by omega) hnc)) this
          · cases hlo0
        · rename_i k v k' v' hlo0 hhi0
          cases hp
          rcases hL with ⟨rfl, rfl⟩ | ⟨xl, yl, rfl, rfl, hrl⟩
          · cases hlo0
          · rcases hH with ⟨rfl, rfl⟩ | ⟨xh, yh, rfl, rfl, hrh⟩
            · cases hhi0
            · simp only [Option.map_some, Option.some.injEq] at hlo0 hhi0
              rw [hlo0] at hrl
              rw [hhi0] at hrh
              unfold CRel at hrl hrh
              obtain ⟨hs1, hs2, hs3⟩ := hsc'
              exact mk hv (run_sliceAt hes (bounds_run (.inr ⟨k, v, by simp [hrl], hs1, rfl⟩) (.inr ⟨k', v', by simp [hrh], by omega, rfl⟩) (by omega) (by omega) hnc)) (sub v.toNat v'.toNat (by omega) (by omega))
        · cases hp
      · cases hp
    · rename_i k0 s' n hxe
      split at hp
      · rename_i k v hlo0 hhi0
        cases hp
        rcases hL with ⟨rfl, rfl⟩ | ⟨xl, yl, rfl, rfl, hrl⟩
        · rcases hH with ⟨rfl, rfl⟩ | ⟨xh, yh, rfl, rfl, hrh⟩
          · cases hhi0
          · simp only [Option.map_some, Option.some.injEq] at hhi0
            rw [hhi0] at hrh
            unfold CRel at hrh
            obtain ⟨hs1, hs2⟩ := hsc'
            rw [hxe] at h1
            unfold CRel at h1
            rcases h1 with ⟨hR, hn, hv⟩ | ⟨b, c, hR, hnc, hv⟩
            · refine mk hv (run_sliceAt hes (bounds_run (l := 0) (q := 0) (.inl ⟨rfl, rfl⟩) (.inr ⟨k, v, by simp [hrh], hs1, by omega⟩) (by omega) (by omega) (by omega))) ?_
              unfold CRel
              exact .inl ⟨hR, by omega, by simp⟩
            · refine mk hv (run_sliceAt hes (bounds_run (l := 0) (q := v.toNat) (.inl ⟨rfl, rfl⟩) (.inr ⟨k, v, by simp [hrh], hs1, rfl⟩) (by omega) (by omega) (by omega))) ?_
              unfold CRel
              exact .inr ⟨b, c, hR, by omega, by simp [Addr.add_lit]⟩
        · cases hlo0
      · cases hp
    · cases hp
  · cases hc

theorem run_part_one {t : TypeId} (h : aggSz P t = some none) {cs : Array Value} {off : Nat} {v : Value} (hv : cs[off]? = some v) (w2 : World) : (part t cs off).run P w2 = .ok v w2 := by
  simp [part, aggSz_none h w2, hv]

theorem run_part_agg {t : TypeId} {s : Nat} (h : aggSz P t = some (some s)) {cs : Array Value} {off : Nat} (w2 : World) : (part t cs off).run P w2 = .ok (.agg (cs.extract off (off + s))) w2 := by
  simp [part, (aggSz_some h w2).1, (aggSz_some h w2).2]

theorem fieldOf_eq {t f off : Nat} {ft : TypeId} (h : fieldOf P t f = some (off, ft)) : ∃ fs x, P.underlying t = some (.struct fs) ∧ fs[f]? = some x ∧ x.offset = off ∧ x.type = ft := by
  unfold fieldOf at h
  split at h
  · rename_i fs hu
    simp only [Option.map_eq_some_iff] at h
    obtain ⟨x, hx, he⟩ := h
    cases he
    exact ⟨fs, x, hu, hx, rfl, rfl⟩
  · cases h

theorem q_fld {t f off : Nat} {ft : TypeId} {x : Operand} {x' : Opd} {s : Option Nat} (hf : fieldOf P t f = some (off, ft)) (hs : aggSz P ft = some s) (hx : opdOf x = some x') (hr : aop (.fld off s x') e e0 h = some r) (hsc : r.sc)
    (he : ∀ x z, opdOf x = some z → z ∈ (IOp.fld off s x').opds → CRel R w I (e z) (a.eval x)) : fin P ⟨dst, .field t x f, ty, pos, after, guard⟩ a R w I mem names r h := by
  obtain ⟨fs, fx, hu, hfx, ho, ht⟩ := fieldOf_eq hf
  have h1 := he x x' hx (by simp [IOp.opds])
  simp only [aop] at hr
  have go : ∀ {cs : Array Value} {v : Value}, a.eval x = .agg cs → (∀ w2, (part ft cs off).run P w2 = .ok v w2) → ∀ w2, (execOp a.eval ⟨dst, .field t x f, ty, pos, after, guard⟩).run P w2 = .ok (.value v) w2 := by
    intro cs v hv hp w2
    simp [execOp, Instr.field, run_underlying hu, hfx, hv, asAgg, ht, ho, hp]
  split at hr
  · rename_i l hl
    cases hr
    rw [hl] at h1
    unfold CRel at h1
    obtain ⟨cs, hv, hcs⟩ := h1
    have hlt : off < l.length := hsc
    obtain ⟨v, hvv, hcr⟩ := hcs.get off l[off] (List.getElem?_eq_getElem hlt)
    refine fin_of rfl (go hv (run_part_one hs (by simpa using hvv))) ?_
    show CRel R w I (l.getD off .und) v
    rw [List.getD_eq_getElem?_getD, List.getElem?_eq_getElem hlt]; exact hcr
  · rename_i l q hl
    cases hr
    rw [hl] at h1
    unfold CRel at h1
    obtain ⟨cs, hv, hcs⟩ := h1
    have hlt : off + q ≤ l.length := hsc
    refine fin_of rfl (go hv (run_part_agg hs)) ?_
    unfold CRel
    refine ⟨_, rfl, CRelL.of_get ?_ fun i y u hy hu => ?_⟩
    · have := hcs.length; simp at this; simp; omega
    · have hcl := hcs.length
      simp only [Array.length_toList] at hcl
      simp only [List.getElem?_take, List.getElem?_drop] at hy
      split at hy
      · rename_i hi
        simp only [Array.getElem?_toList, Array.getElem?_extract] at hu
        rw [if_pos (by omega)] at hu
        obtain ⟨u', hu', hr'⟩ := hcs.get _ _ hy
        simp only [Array.getElem?_toList] at hu'
        rw [hu] at hu'; cases hu'; exact hr'
      · cases hy
  · cases hr
end
end Go.AM
