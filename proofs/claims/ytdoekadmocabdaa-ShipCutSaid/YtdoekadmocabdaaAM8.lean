/- A part of the proof: lemmas. -/
import Derived.Test.YtdoekadmocabdaaAM7
set_option linter.unusedVariables false
set_option linter.unusedSimpArgs false
namespace Go.AM
section
variable {P : Program} {X : Cx} {R : RL} {w w' : World} {I : Nat → Prop} {H H1 : List AO}
variable {a : Act} {e e0 : Opd → AV} {r : SR} {dst : Option Tmp} {ty : TypeId} {pos : String} {after : Array Edge} {guard : Option (Nat × Bool)}

theorem getElem?_flat {α : Type} (l : List α) : ∀ (n i : Nat), i < n * l.length → (List.replicate n l).flatten[i]? = l[i % l.length]?
  | 0, i, h => by omega
  | n+1, i, h => by
    have h' : i < n * l.length + l.length := by rw [Nat.add_mul, Nat.one_mul] at h; exact h
    rw [List.replicate_succ, List.flatten_cons]
    by_cases hi : i < l.length
    · rw [List.getElem?_append_left hi, Nat.mod_eq_of_lt hi]
    · rw [List.getElem?_append_right (by omega), getElem?_flat l n (i - l.length) (by omega)]
      congr 1
      exact (Nat.mod_eq_sub_mod (by omega)).symm

theorem zeroOf_eq {t : TypeId} {z : List KV} (hz : zeroOf P t = some z) : ∃ i zv, P.info? t = some i ∧ i.zero = some zv ∧ zv.cells.toList.length = z.length ∧ ∀ (R : RL) (w : World) (I : Nat → Prop), CRelL R w I (KV.avs z) zv.cells.toList := by
  unfold zeroOf at hz
  split at hz
  · rename_i i hi
    split at hz
    · rename_i zv hzv
      exact ⟨i, zv, hi, hzv, by simpa using congrArg List.length (allS_eq hz), fun R w I => kvOfs_rel R w I 3 zv.cells.toList z (allS_eq hz)⟩
    · cases hz
  · cases hz

theorem avs_length : ∀ (z : List KV), (KV.avs z).length = z.length
  | [] => rfl
  | x :: r => by simp [KV.avs, avs_length r]

theorem l_bslice {t : TypeId} {len : Nat} {parts : Array (Nat × Operand)} {op : IOp} (hc : cBslice P t len parts = some op) (hr : aop op e e0 H = some r) (hsc : r.sc) (h : Sat X R w I H)
    (he : ∀ x z, opdOf x = some z → z ∈ op.opds → CRel R w I (e z) (a.eval x)) : Loud P ⟨dst, .buildSlice t len parts, ty, pos, after, guard⟩ a X R w I H [] r := by
  unfold cBslice at hc
  split at hc
  · rename_i el s b hes
    split at hc
    · rename_i z ps hz hps
      cases hc
      obtain ⟨hu, i, hi, hs, hb⟩ := elemSz_eq hes
      obtain ⟨i', zv, hi', hzv, hzl, hzr⟩ := zeroOf_eq hz
      rw [hi] at hi'; cases hi'
      have hps' := allS_eq hps
      simp only [aop] at hr
      split at hr
      · rename_i hfits
        cases hr
        obtain ⟨hs0, hmax, hzs, hok⟩ : 0 < s ∧ len * s ≤ 16777216 ∧ (KV.avs z).length = s ∧ fillOk (len * s) (evs e ps) := hsc
        have hzc : zv.cells.size = s := by have := avs_length z; simp only [Array.length_toList] at hzl; omega
        -- the noughts
        have hbase : CRelL R w I (List.replicate len (KV.avs z)).flatten ((Array.range (len * s)).map (fun k => zv.cells[k % zv.cells.size]!)).toList := by
          have hfl : (List.replicate len (KV.avs z)).flatten.length = len * s := by simp [hzs]
          refine CRelL.of_get (by rw [hfl]; simp) fun k x v hx hv => ?_
          have hk : k < len * s := by
            have := (List.getElem?_eq_some_iff.1 hx).1; omega
          rw [getElem?_flat _ _ _ (by rw [hzs]; exact hk), hzs] at hx
          have hks : k % s < s := Nat.mod_lt _ hs0
          obtain ⟨v', hv', hcr⟩ := (hzr R w I).get (k % s) x hx
          simp only [Array.getElem?_toList, Array.getElem?_map, Array.getElem?_range, hk, if_true, Option.map_some, Option.some.injEq] at hv
          rw [hzc, getElem!_pos _ _ (by omega)] at hv
          simp only [Array.getElem?_toList] at hv'
          rw [Array.getElem?_eq_getElem (by omega)] at hv'
          cases hv'; rw [← hv]; exact hcr
        have hlen : parts.toList.length = ps.length := by simpa using congrArg List.length hps'
        obtain ⟨cells, hf, hcr⟩ := fill_rel (places := fun k => some (k * s, s)) (parts.toList.map fun p => (p.1, a.eval p.2)) (evs e ps) _ _ hbase (by simp [evs, hlen]) (by
          intro k i v off sz x hk hk'
          simp only [List.getElem?_map, Option.map_eq_some_iff] at hk
          obtain ⟨p, hp, hpe⟩ := hk
          cases hpe
          simp only [evs, List.getElem?_map, Option.map_eq_some_iff] at hk'
          obtain ⟨q, hq, hqe⟩ := hk'
          cases hqe
          have := congrArg (fun l => l[k]?) hps'
          simp only [List.getElem?_map, hp, hq, Option.map_some, Option.some.injEq, Option.map_eq_some_iff] at this
          obtain ⟨y, hy, rfl⟩ := this
          have hm : (p.1 * s, s, y) ∈ ps := List.mem_of_getElem? hq
          have hall := List.all_eq_true.1 hfits (p.1 * s, s, e y) (List.mem_map.2 ⟨_, hm, rfl⟩)
          exact ⟨rfl, (he p.2 y hy (List.mem_map.2 ⟨_, hm, rfl⟩)).cs hall⟩) (by simpa [hzs] using hok)
        have hcl := hcr.length
        have hfpl : ∀ (qs : List (Nat × Nat × AV)) (l : List AV), (fillP l qs).length = l.length := by
          intro qs; induction qs with
          | nil => intro l; rfl
          | cons q qs ih => intro l; obtain ⟨o, z, v⟩ := q; simp [fillP, ih, putAt_length]
        rw [hfpl] at hcl
        simp only [Array.length_toList, List.length_flatten, List.map_replicate, List.sum_replicate_nat, hzs] at hcl
        have ext : Ext R w I (R ++ [some (w.heap.size, len)]) { w with heap := w.heap.push (.cells cells el) } I :=
          ⟨List.prefix_append _ _, fun _ hb => hb, fun b hb => push_old w _ b (h.imm b hb)⟩
        have hcr2 := hcr.mono ext
        have step := h.step (w' := { w with heap := w.heap.push (.cells cells el) }) (H1 := H) (fun _ => False) (.row el s len (fun i j => (fillP (List.flatten (List.replicate len (KV.avs z))) (evs e ps)).getD (i * s + j) .und)) (some (w.heap.size, len)) rfl (fun n o h1 _ => h1) (fun b hb _ => push_old w _ b hb) (fun _ _ _ => id) (fun _ h => h.elim) (fun _ h => h.elim)
          (by intro b c hb; cases hb; exact ⟨.inl (Nat.le_refl _), fun n hn => by have := h.lt hn; omega⟩)
          (by
            refine ⟨hs0, .inr ⟨w.heap.size, len, cells, by simp [h.len], push_new w _, hcl, Nat.le_refl _, ?_, ?_⟩⟩
            · have : len ≤ len * s := Nat.le_mul_of_pos_right _ hs0
              unfold maxLen; omega
            · intro i j hi hj
              have hij : i * s + j < len * s := by
                have : (i + 1) * s ≤ len * s := Nat.mul_le_mul_right _ hi
                rw [Nat.add_mul] at this; omega
              have hl2 : i * s + j < (fillP (List.flatten (List.replicate len (KV.avs z))) (evs e ps)).length := by
                rw [hfpl]; simp [hzs]; exact hij
              obtain ⟨u, hu, hr⟩ := hcr2.get (i * s + j) _ (List.getElem?_eq_getElem hl2)
              refine ⟨u, by simpa using hu, ?_⟩
              simp only [List.getD_eq_getElem?_getD, List.getElem?_eq_getElem hl2, Option.getD_some]
              exact hr)
          rfl rfl rfl (by simp)
        refine ⟨.slice (some ⟨w.heap.size, 0, none⟩) len len, _, _, I, .inl ?_, step.1, ?_, step.2, fun n b hn _ => push_old w _ b (h.lt hn)⟩
        · by_cases h0 : len * i.size = 0
          · have hl0 : len = 0 := by
              rcases Nat.mul_eq_zero.1 h0 with h0 | h0
              · exact h0
              · omega
            subst hl0
            have hz0 : (Array.range (0 * s)).map (fun k => zv.cells[k % zv.cells.size]!) = #[] := Array.eq_empty_of_size_eq_zero (by simp)
            rw [hz0] at hf
            have hf' : Instr.fill (fun k => some (k * i.size, i.size)) #[] (parts.toList.map fun p => (p.1, a.eval p.2)) = some cells := by rw [hs]; exact hf
            have e1 : (parts.map fun x => (x.1, a.eval x.2)).toList = parts.toList.map fun p => (p.1, a.eval p.2) := by simp
            have hz1 : (Array.range 0).map (fun _ => (default : Value)) = #[] := Array.eq_empty_of_size_eq_zero (by simp)
            simp [execOp, Instr.buildSlice, run_underlying hu, run_sizeOf hi, newRow, hz1, hf']
          · have hgt : ¬ (len * i.size > 2 ^ 24) := by rw [hs]; omega
            have hf' : Instr.fill (fun k => some (k * i.size, i.size)) ((Array.range (len * i.size)).map (fun k => zv.cells[k % zv.cells.size]!)) (parts.toList.map fun p => (p.1, a.eval p.2)) = some cells := by rw [hs]; exact hf
            simp [execOp, Instr.buildSlice, run_underlying hu, run_sizeOf hi, hgt, h0, zeroValue, typeInfo, hi, hzv, hf', newRow]
        · unfold CRel
          exact .inr ⟨w.heap.size, len, by simp [h.len], Nat.le_refl _, rfl⟩
      · cases hr
    · cases hc
  · cases hc
end
end Go.AM
