/- A part of the proof: lemmas. -/
import Derived.Test.YtdoekadmocabdaaAM6
import Derived.Laws.RangeString
set_option linter.unusedVariables false
set_option linter.unusedSimpArgs false
namespace Go.AM
section
variable {P : Program} {X : Cx} {R : RL} {w w' : World} {I : Nat → Prop} {H H1 : List AO}

theorem Sat.iLive (h : Sat X R w I H) {n b : Nat} (hl : Live R H n b) : ¬ I b := (h.sep n b hl).1

/-- One object more; some may have died; the blocks of 'T' may have been written. -/
theorem Sat.step (h : Sat X R w I H) (T : Nat → Prop) (o' : AO) (nb : Option (Nat × Nat)) (hlen : H1.length = H.length) (hH : ∀ (n : Nat) (o : AO), H1[n]? = some o → o.live = true → H[n]? = some o)
    (hT : ∀ b, b < w.heap.size → ¬ T b → w'.heap[b]? = w.heap[b]?) (hTl : ∀ n b, Live R H1 n b → ¬ T b) (hTI : ∀ b, T b → ¬ I b) (hTC : ∀ b, T b → X.C b ∨ X.w0.heap.size ≤ b)
    (hnb : ∀ b c, nb = some (b, c) → (w.heap.size ≤ b ∨ T b) ∧ ∀ n, ¬ Live R H1 n b) (ho : ORel (R ++ [nb]) w' I H.length o')
    (hos : w'.os = w.os) (htape : w'.tape = w.tape) (hout : w'.output = w.output) (hsz : w.heap.size ≤ w'.heap.size) :
    Sat X (R ++ [nb]) w' I (H1 ++ [o']) ∧ Ext R w I (R ++ [nb]) w' I := by
  have hI : ∀ b, I b → w'.heap[b]? = w.heap[b]? := fun b hb => hT b (h.imm b hb) fun ht => hTI b ht hb
  have ext : Ext R w I (R ++ [nb]) w' I := ⟨List.prefix_append _ _, fun _ hb => hb, hI⟩
  have hRlen : R.length = H1.length := by rw [hlen]; exact h.len
  have back : ∀ n b, Live R H1 n b → Live R H n b := fun n b ⟨c, o, h1, h2, h3⟩ => ⟨c, o, h1, hH n o h2 h3, h3⟩
  -- a live name of the new heap is an old one, or the new one
  have cases_ : ∀ n b, Live (R ++ [nb]) (H1 ++ [o']) n b → (n < H1.length ∧ Live R H1 n b) ∨ (n = H1.length ∧ ∃ c, nb = some (b, c)) := by
    intro n b ⟨c, o, h1, h2, h3⟩
    rcases Nat.lt_trichotomy n H1.length with hn | hn | hn
    · left
      rw [List.getElem?_append_left (by omega)] at h1 h2
      exact ⟨hn, c, o, h1, h2, h3⟩
    · right
      rw [List.getElem?_append_right (by omega), show n - R.length = 0 by omega] at h1
      simp at h1
      exact ⟨hn, c, h1⟩
    · rw [List.getElem?_append_right (by omega)] at h2
      rw [List.getElem?_eq_none (by simp; omega)] at h2
      cases h2
  refine ⟨⟨by simp [hRlen], h.pin.trans (List.prefix_append _ _), ?_, ?_, ?_, ?_, h.i0, ?_, h.iN, ?_, hos.trans h.os, htape.trans h.tape, hout.trans h.output, Nat.le_trans h.size hsz⟩, ext⟩
  · intro n o hn
    rcases Nat.lt_trichotomy n H1.length with hl | hl | hl
    · rw [List.getElem?_append_left hl] at hn
      cases hlive : o.live with
      | false => cases o <;> simp [AO.live] at hlive; trivial
      | true =>
        have hho := h.obj n o (hH n o hn hlive)
        refine hho.mono ext fun b c hb => ?_
        have hL : Live R H1 n b := ⟨c, o, hb, hn, hlive⟩
        exact hT b (h.lt (back n b hL)) (hTl n b hL)
    · subst hl
      rw [List.getElem?_append_right (Nat.le_refl _), Nat.sub_self] at hn
      simp at hn; subst hn
      rw [hlen]; exact ho
    · rw [List.getElem?_append_right (by omega)] at hn
      rw [List.getElem?_eq_none (by simp; omega)] at hn
      cases hn
  · intro m n b hm hn
    rcases cases_ m b hm with ⟨hm1, hm2⟩ | ⟨hm1, c, hm2⟩ <;> rcases cases_ n b hn with ⟨hn1, hn2⟩ | ⟨hn1, c', hn2⟩
    · exact h.inj m n b (back m b hm2) (back n b hn2)
    · exact absurd hm2 ((hnb b c' hn2).2 m)
    · exact absurd hn2 ((hnb b c hm2).2 n)
    · rw [hm1, hn1]
  · intro n b hn
    rcases cases_ n b hn with ⟨hn1, hn2⟩ | ⟨hn1, c, hn2⟩
    · exact h.sep n b (back n b hn2)
    · rcases (hnb b c hn2).1 with hb | hb
      · exact ⟨fun hi => by have := h.imm b hi; omega, .inr (Nat.le_trans h.size hb)⟩
      · exact ⟨hTI b hb, hTC b hb⟩
  · intro b hb; exact Nat.lt_of_lt_of_le (h.imm b hb) hsz
  · intro b hb; exact (hI b (h.i0 b hb)).trans (h.i0s b hb)
  · intro b hb hc
    refine (hT b (Nat.lt_of_lt_of_le hb h.size) fun ht => ?_).trans (h.fr b hb hc)
    rcases hTC b ht with h1 | h1
    · exact hc h1
    · omega

/-- An object is written. -/
theorem Sat.write (h : Sat X R w I H) {n b c : Nat} {o o' : AO} (hR : R[n]? = some (some (b, c))) (hn : H[n]? = some o) (hl : o.live = true)
    (hT : ∀ k, k < w.heap.size → k ≠ b → w'.heap[k]? = w.heap[k]?) (ho : ORel R w' I n o')
    (hos : w'.os = w.os) (htape : w'.tape = w.tape) (hout : w'.output = w.output) (hsz : w'.heap.size = w.heap.size) :
    Sat X R w' I (H.set n o') ∧ Ext R w I R w' I := by
  have hL : Live R H n b := ⟨c, o, hR, hn, hl⟩
  have hbI : ¬ I b := h.iLive hL
  have hI : ∀ k, I k → w'.heap[k]? = w.heap[k]? := fun k hk => hT k (h.imm k hk) fun e => hbI (e ▸ hk)
  have ext : Ext R w I R w' I := ⟨List.prefix_rfl, fun _ hb => hb, hI⟩
  have hnl : n < H.length := (List.getElem?_eq_some_iff.1 hn).1
  have back : ∀ m k, Live R (H.set n o') m k → Live R H m k := by
    intro m k ⟨c', q, h1, h2, h3⟩
    by_cases hm : m = n
    · subst hm
      rw [hR] at h1; cases h1
      exact hL
    · rw [List.getElem?_set_ne (Ne.symm hm)] at h2
      exact ⟨c', q, h1, h2, h3⟩
  refine ⟨⟨by simpa using h.len, h.pin, ?_, fun m k q hm hk => h.inj m k q (back _ _ hm) (back _ _ hk), fun m k hm => h.sep m k (back _ _ hm), fun k hk => by rw [hsz]; exact h.imm k hk, h.i0,
    fun k hk => (hI k (h.i0 k hk)).trans (h.i0s k hk), h.iN, ?_, hos.trans h.os, htape.trans h.tape, hout.trans h.output, by rw [hsz]; exact h.size⟩, ext⟩
  · intro m q hq
    by_cases hm : m = n
    · subst hm
      rw [List.getElem?_set_self hnl] at hq
      cases hq; exact ho
    · rw [List.getElem?_set_ne (Ne.symm hm)] at hq
      cases hlive : q.live with
      | false => cases q <;> simp [AO.live] at hlive; trivial
      | true =>
        refine (h.obj m q hq).mono ext fun k c' hk => ?_
        have hLm : Live R H m k := ⟨c', q, hk, hq, hlive⟩
        exact hT k (h.lt hLm) fun e => hm (h.inj m n b (e ▸ hLm) hL)
  · intro k hk hc
    refine (hT k (Nat.lt_of_lt_of_le hk h.size) fun e => ?_).trans (h.fr k hk hc)
    subst e
    rcases (h.sep n k hL).2 with h1 | h1
    · exact hc h1
    · omega

/-- Which objects an operation may write. -/
def aTouch (op : IOp) (e : Opd → AV) : List Nat :=
  match op with
  | .store _ a _ => match e a with
    | .ptr n _ => [n]
    | .ep n _ _ _ => [n]
    | _ => []
  | .append _ _ _ x _ => match e x with
    | .own k _ _ => [k]
    | _ => []
  | .frz x => match e x with
    | .own k _ _ => [k]
    | _ => []
  | .nextS x => match e x with
    | .ptr n _ => [n]
    | _ => []
  | _ => []

/-- What an operation that writes or makes memory comes to. -/
def Loud (P : Program) (o : Oper) (a : Act) (X : Cx) (R : RL) (w : World) (I : Nat → Prop) (H : List AO) (touch : List Nat) (r : SR) : Prop :=
  ∃ v w' R' I', ((execOp a.eval o).run P w = .ok (.value v) w' ∨ ((execOp a.eval o).run P w = .ok .skip w' ∧ v = undef)) ∧
    Sat X R' w' I' r.h ∧ CRel R' w' I' r.v v ∧ Ext R w I R' w' I' ∧ ∀ n b, Live R H n b → n ∉ touch → w'.heap[b]? = w.heap[b]?

variable {a : Act} {e e0 : Opd → AV} {r : SR} {dst : Option Tmp} {ty : TypeId} {pos : String} {after : Array Edge} {guard : Option (Nat × Bool)}

theorem push_old (w : World) (o : Obj) (b : Nat) (hb : b < w.heap.size) : ({ w with heap := w.heap.push o } : World).heap[b]? = w.heap[b]? := by
  show (w.heap.push o)[b]? = _
  rw [Array.getElem?_push, if_neg (by omega)]
theorem push_new (w : World) (o : Obj) : ({ w with heap := w.heap.push o } : World).heap[w.heap.size]? = some o := by
  show (w.heap.push o)[w.heap.size]? = _
  simp

/-- A new object of cells. -/
theorem Sat.newCells (h : Sat X R w I H) (T : Nat) (cs : List AV) (vs : Array Value) (hcs : CRelL R w I cs vs.toList) :
    Sat X (R ++ [some (w.heap.size, 0)]) { w with heap := w.heap.push (.cells vs T) } I (H ++ [.cells T cs]) ∧ Ext R w I (R ++ [some (w.heap.size, 0)]) { w with heap := w.heap.push (.cells vs T) } I := by
  have ext : Ext R w I (R ++ [some (w.heap.size, 0)]) { w with heap := w.heap.push (.cells vs T) } I :=
    ⟨List.prefix_append _ _, fun _ hb => hb, fun b hb => push_old w _ b (h.imm b hb)⟩
  refine h.step (fun _ => False) _ _ rfl (fun n o h1 _ => h1) (fun b hb _ => push_old w _ b hb) (fun _ _ _ => id) (fun _ h => h.elim) (fun _ h => h.elim) ?_ ?_ rfl rfl rfl (by simp)
  · intro b c hb
    cases hb
    exact ⟨.inl (Nat.le_refl _), fun n hn => by have := h.lt hn; omega⟩
  · exact ⟨w.heap.size, 0, vs, by simp [h.len], push_new w _, hcs.mono ext⟩

theorem l_alloc {t : TypeId} {z : List KV} (hz : zeroOf P t = some z) (hr : aop (.alloc t z) e e0 H = some r) (h : Sat X R w I H) : Loud P ⟨dst, .alloc t, ty, pos, after, guard⟩ a X R w I H [] r := by
  simp only [aop, Option.some.injEq] at hr; subst hr
  unfold zeroOf at hz
  split at hz
  · rename_i i hi
    split at hz
    · rename_i zv hzv
      have hzz := kvOfs_rel R w I 3 zv.cells.toList z (allS_eq hz)
      obtain ⟨hs, hx⟩ := h.newCells t _ _ hzz
      refine ⟨.pointer (some ⟨w.heap.size, 0, none⟩), _, _, I, .inl ?_, hs, ?_, hx, fun n b hn _ => push_old w _ b (h.lt hn)⟩
      · simp [execOp, Instr.alloc, zeroValue, typeInfo, hi, hzv, newVar, newRow]
      · unfold CRel; exact ⟨w.heap.size, 0, by simp [h.len], rfl⟩
    · cases hz
  · cases hz

theorem l_rngS {t : TypeId} {x : Operand} {x' : Opd} (hu : P.underlying t = some .string) (hx : opdOf x = some x') (hr : aop (.rngS x') e e0 H = some r) (h : Sat X R w I H)
    (he : ∀ x z, opdOf x = some z → z ∈ (IOp.rngS x').opds → CRel R w I (e z) (a.eval x)) : Loud P ⟨dst, .range t x, ty, pos, after, guard⟩ a X R w I H [] r := by
  simp only [aop] at hr
  split at hr
  · rename_i l hl
    cases hr
    have h1 := he x x' hx (by simp [IOp.opds])
    rw [hl] at h1; unfold CRel at h1
    obtain ⟨h1, hb⟩ := h1
    have ext : Ext R w I (R ++ [some (w.heap.size, 0)]) { w with heap := w.heap.push (.stringIter (strOf l) 0) } I :=
      ⟨List.prefix_append _ _, fun _ hb => hb, fun b hb => push_old w _ b (h.imm b hb)⟩
    have hst := h.step (H1 := H) (w' := { w with heap := w.heap.push (.stringIter (strOf l) 0) }) (fun _ => False) (.siter l 0) (some (w.heap.size, 0)) rfl (fun n o h1 _ => h1) (fun b hb _ => push_old w _ b hb) (fun _ _ _ => id) (fun _ h => h.elim) (fun _ h => h.elim) (by
      intro b c hb
      cases hb
      exact ⟨.inl (Nat.le_refl _), fun n hn => by have := h.lt hn; omega⟩) ⟨w.heap.size, 0, by simp [h.len], push_new w _, hb⟩ rfl rfl rfl (by simp)
    refine ⟨.pointer (some ⟨w.heap.size, 0, none⟩), _, _, I, .inl ?_, hst.1, ?_, hst.2, fun n b hn _ => push_old w _ b (h.lt hn)⟩
    · have hrun := run_range_string (P := P) w t (strOf l) hu
      simp only [execOp, h1]
      rw [Sem.run_bind, hrun]; rfl
    · unfold CRel; exact ⟨w.heap.size, 0, by simp [h.len], rfl⟩
  · cases hr

theorem strOf_size (l : List Int) : (strOf l).size = l.length := by simp [strOf, ByteArray.size]
theorem strOf_get (l : List Int) (p : Nat) (h : p < l.length) (hb : ∀ x, x ∈ l → 0 ≤ x ∧ x < 256) : (((strOf l)[p]'(by rw [strOf_size]; exact h)).toNat : Int) = l.getD p 0 := by
  have h2 := hb _ (List.getElem_mem h)
  have : (strOf l)[p]'(by rw [strOf_size]; exact h) = UInt8.ofNat (l[p]).toNat := by
    show (strOf l).data[p]'_ = _
    simp [strOf]
  rw [this, List.getD_eq_getElem?_getD, List.getElem?_eq_getElem h]
  simp
  omega

theorem run_next_at (w : World) (b : Nat) (s : ByteArray) (pos : Nat) (ty : TypeId) (hb : w.heap[b]? = some (.stringIter s pos)) (h : pos < s.size) (ha : (s[pos]'h).toNat < 128) :
    (Instr.next (.pointer (some ⟨b, 0, none⟩)) true ty).run P w =
      .ok (.tuple #[.bool true, .int .i64 pos, .int .i32 (s[pos]'h).toNat]) { w with heap := w.heap.setIfInBounds b (.stringIter s (pos + 1)) } := by
  simp only [Instr.next, getObj, setObj, Sem.run_bind, Sem.run, hb, Result.andThen, h, if_true, decode_ascii s pos h ha]
  simp [goInt, Sem.run, hb]
theorem run_next_over (w : World) (b : Nat) (s : ByteArray) (pos : Nat) (ty : TypeId) (hb : w.heap[b]? = some (.stringIter s pos)) (h : ¬ pos < s.size) :
    (Instr.next (.pointer (some ⟨b, 0, none⟩)) true ty).run P w = .ok (.tuple #[.bool false]) w := by
  simp [Instr.next, getObj, Sem.run, hb, h]

theorem l_nextS {x : Operand} {x' : Opd} (hx : opdOf x = some x') (hr : aop (.nextS x') e e0 H = some r) (hsc : r.sc) (h : Sat X R w I H)
    (he : ∀ x z, opdOf x = some z → z ∈ (IOp.nextS x').opds → CRel R w I (e z) (a.eval x)) : Loud P ⟨dst, .next x true, ty, pos, after, guard⟩ a X R w I H (aTouch (.nextS x') e) r := by
  simp only [aop] at hr
  split at hr
  · rename_i n hn
    have h1 := he x x' hx (by simp [IOp.opds])
    rw [hn] at h1; unfold CRel at h1
    obtain ⟨b, c, hR, hv⟩ := h1
    split at hr
    · rename_i l p ho
      obtain ⟨b', c', hR', hg, hb⟩ := h.obj n _ ho
      rw [hR] at hR'; cases hR'
      split at hr
      · rename_i hp
        cases hr
        have hp' : p < (strOf l).size := by rw [strOf_size]; exact hp
        have hget := strOf_get l p hp hb
        have hlt : ((strOf l)[p]'hp').toNat < 128 := by
          have : l.getD p 0 < 128 := hsc
          omega
        have hrun := run_next_at (P := P) w b (strOf l) p ty hg hp' hlt
        have hbl : b < w.heap.size := (Array.getElem?_eq_some_iff.1 hg).1
        have hw := h.write (w' := { w with heap := w.heap.setIfInBounds b (.stringIter (strOf l) (p + 1)) }) (o' := .siter l (p + 1)) hR ho rfl (fun k _ hk => by simp [Array.getElem?_setIfInBounds, Ne.symm hk]) ⟨b, c, hR, by simp [hbl], hb⟩ rfl rfl rfl (by simp)
        refine ⟨.tuple #[.bool true, .int .i64 p, .int .i32 ((strOf l)[p]'hp').toNat], { w with heap := w.heap.setIfInBounds b (.stringIter (strOf l) (p + 1)) }, R, I, .inl ?_, hw.1, ?_, hw.2, fun m k hm hm2 => ?_⟩
        · simp only [execOp, hv]
          rw [Sem.run_bind, hrun]; rfl
        · unfold CRel
          refine ⟨_, rfl, ?_⟩
          simp [CRelL, CRel, hget]
        · have hk : b ≠ k := fun e2 => by
            subst e2
            have := h.inj m n b hm ⟨c, _, hR, ho, rfl⟩
            subst this
            simp [aTouch, hn] at hm2
          simp [Array.getElem?_setIfInBounds, hk]
      · rename_i hp
        cases hr
        have hrun := run_next_over (P := P) w b (strOf l) p ty hg (by rw [strOf_size]; exact hp)
        refine ⟨.tuple #[.bool false], w, R, I, .inl ?_, h, ?_, Ext.refl _ _ _, fun _ _ _ _ => rfl⟩
        · simp only [execOp, hv]
          rw [Sem.run_bind, hrun]; rfl
        · unfold CRel
          exact ⟨_, rfl, by simp [CRelL, CRel]⟩
    · cases hr
  · cases hr

theorem l_box {t : TypeId} {x : Operand} {x' : Opd} (hx : opdOf x = some x') (hr : aop (.box t x') e e0 H = some r) (h : Sat X R w I H)
    (he : ∀ x z, opdOf x = some z → z ∈ (IOp.box t x').opds → CRel R w I (e z) (a.eval x)) : Loud P ⟨dst, .box t x, ty, pos, after, guard⟩ a X R w I H [] r := by
  simp only [aop] at hr
  split at hr
  · rename_i hf
    cases hr
    have h1 := (he x x' hx (by simp [IOp.opds])).cs hf
    obtain ⟨hs, hx2⟩ := h.newCells t _ _ h1
    refine ⟨.pointer (some ⟨w.heap.size, 0, none⟩), _, _, I, .inl ?_, hs, ?_, hx2, fun n b hn _ => push_old w _ b (h.lt hn)⟩
    · simp [execOp, Instr.box, newVar, newRow]
    · unfold CRel; exact ⟨w.heap.size, 0, by simp [h.len], rfl⟩
  · cases hr

theorem putAt_length : ∀ (xs l : List AV) (o : Nat), (putAt l o xs).length = l.length
  | [], l, o => rfl
  | y :: ys, l, o => by simp [putAt, putAt_length ys]

theorem putAt_rel : ∀ (xs : List AV) (vs : List Value) (l : List AV) (us : List Value) (o : Nat), CRelL R w I l us → CRelL R w I xs vs → o + xs.length ≤ l.length → CRelL R w I (putAt l o xs) (us.take o ++ vs ++ us.drop (o + vs.length))
  | [], vs, l, us, o, h, hv, ho => by
    unfold CRelL at hv; subst hv
    simpa [putAt] using h
  | y :: ys, vs, l, us, o, h, hv, ho => by
    unfold CRelL at hv
    obtain ⟨u, vr, rfl, hu, hvr⟩ := hv
    simp only [List.length_cons] at ho
    have hl := h.length
    have := putAt_rel ys vr (l.set o y) (us.set o u) (o + 1) (h.set o hu) hvr (by simp; omega)
    have e : us.take o ++ (u :: vr) ++ us.drop (o + (u :: vr).length) = (us.set o u).take (o + 1) ++ vr ++ (us.set o u).drop (o + 1 + vr.length) := by
      have h1 : (us.set o u).take (o + 1) = us.take o ++ [u] := by
        rw [List.take_succ_eq_append_getElem (by simp; omega)]
        rw [List.take_set_of_le (Nat.le_refl _)]
        simp
      have h2 : (us.set o u).drop (o + 1 + vr.length) = us.drop (o + (u :: vr).length) := by
        rw [List.drop_set_of_lt (by omega)]
        congr 1; simp; omega
      rw [h1, h2]; simp
    rw [e]; exact this

theorem run_storeAt {t : TypeId} {i : TypeInfo} (hi : P.info? t = some i) {g o : Nat} {cur : Array Value} {T : TypeId} {v : Value} (hg : w.heap[g]? = some (.cells cur T (0, 0))) (hv : v.cells.size = i.size) (hfit : o + v.cells.size ≤ cur.size)
    (h1 : ∀ u ∈ v.cells.toList, u.oneCell' = true) :
    (Instr.storeAt t (.pointer (some ⟨g, o, none⟩)) v).run P w = .ok () (w.setRow g (cur.toList.take o ++ v.cells.toList ++ cur.toList.drop (o + v.cells.toList.length)).toArray) := by
  have := run_storeCells_at P g o T v.cells.toList 0 cur w hg (by simpa using hfit) h1
  simp only [Nat.add_zero] at this
  simp [Instr.storeAt, Instr.sureAddr, storeVar, run_sizeOf hi, hv, this]

theorem ones {l : List AV} {vs : List Value} (h : CRelL R w I l vs) (ho : l.all AV.one = true) : ∀ u ∈ vs, u.oneCell' = true := by
  intro u hu
  obtain ⟨i, hi, rfl⟩ := List.getElem_of_mem hu
  have hl := h.length
  obtain ⟨v, hv, hr⟩ := h.get i l[i] (List.getElem?_eq_getElem (by omega))
  rw [List.getElem?_eq_getElem hi] at hv
  cases hv
  exact (hr.one (List.all_eq_true.1 ho _ (List.getElem_mem _))).1

theorem fits_of_all {x : AV} (h : x.cs.all AV.one = true) : x.fits = true := by
  cases x <;> simp_all [AV.fits, AV.cs, AV.one]

theorem l_store {t : TypeId} {i : TypeInfo} {p x : Operand} {p' x' : Opd} (hi : P.info? t = some i) (hp : opdOf p = some p') (hx : opdOf x = some x') (hr : aop (.store i.size p' x') e e0 H = some r) (hsc : r.sc) (h : Sat X R w I H)
    (he : ∀ x z, opdOf x = some z → z ∈ (IOp.store i.size p' x').opds → CRel R w I (e z) (a.eval x)) : Loud P ⟨dst, .store t p x, ty, pos, after, guard⟩ a X R w I H (aTouch (.store i.size p' x') e) r := by
  simp only [aop] at hr
  split at hr
  · rename_i hall
    have h1 := he p p' hp (by simp [IOp.opds])
    have h2 := (he x x' hx (by simp [IOp.opds])).cs (fits_of_all hall)
    have hone := ones h2 hall
    have hlen := h2.length
    simp only [Array.length_toList] at hlen
    have fin3 : ∀ {n b c o : Nat} {cur : Array Value} {T : TypeId} {ob o' : AO}, a.eval p = .pointer (some ⟨b, o, none⟩) → R[n]? = some (some (b, c)) → H[n]? = some ob → ob.live = true → w.heap[b]? = some (.cells cur T (0, 0)) →
        (a.eval x).cells.size = i.size → o + i.size ≤ cur.size → n ∈ aTouch (.store i.size p' x') e →
        ORel R (w.setRow b (cur.toList.take o ++ (a.eval x).cells.toList ++ cur.toList.drop (o + (a.eval x).cells.toList.length)).toArray) I n o' → r = ⟨r.sc, .und, H.set n o'⟩ →
        Loud P ⟨dst, .store t p x, ty, pos, after, guard⟩ a X R w I H (aTouch (.store i.size p' x') e) r := by
      intro n b c o cur T ob o' hv hR hn hl hg hsz hfit htouch ho hr
      have hw := h.write (w' := w.setRow b (cur.toList.take o ++ (a.eval x).cells.toList ++ cur.toList.drop (o + (a.eval x).cells.toList.length)).toArray) (o' := o') hR hn hl (fun k _ hk => setRow_other w b k _ hk) ho rfl rfl rfl (by simp)
      refine ⟨undef, _, R, I, .inr ⟨?_, rfl⟩, by rw [hr]; exact hw.1, by rw [hr]; unfold CRel; trivial, hw.2, fun m k hm hm2 => setRow_other w b k _ fun e2 => ?_⟩
      · have := run_storeAt (P := P) (w := w) hi (o := o) hg hsz (by omega) hone
        simp only [execOp, hv, Sem.run_bind, this, Result.andThen_ok, Sem.run_pure]
      · subst e2
        exact hm2 (h.inj m n k hm ⟨c, ob, hR, hn, hl⟩ ▸ htouch)
    unfold aStore at hr
    split at hr
    · rename_i n off hpe
      split at hr
      · rename_i T cs ho
        cases hr
        obtain ⟨hs1, hs2⟩ : (e x').cs.length = i.size ∧ off + i.size ≤ cs.length := hsc
        rw [hpe] at h1; unfold CRel at h1
        obtain ⟨b, c, hR, hv⟩ := h1
        obtain ⟨b', c', vs, hR', hg, hcs⟩ := h.obj n _ ho
        rw [hR] at hR'; cases hR'
        have hcl := hcs.length
        simp only [Array.length_toList] at hcl
        refine fin3 hv hR ho rfl hg (by omega) (by omega) (by simp [aTouch, hpe]) ?_ rfl
        refine ⟨b, c, _, hR, setRow_heap w b vs _ T (0, 0) hg, ?_⟩
        have hput := putAt_rel (e x').cs (a.eval x).cells.toList cs vs.toList off hcs h2 (by omega)
        have hsame : Ext R w I R (w.setRow b (vs.toList.take off ++ (a.eval x).cells.toList ++ vs.toList.drop (off + (a.eval x).cells.toList.length)).toArray) I :=
          ⟨List.prefix_rfl, fun _ hb => hb, fun k hk => setRow_other w b k _ fun e2 => h.iLive ⟨c, _, hR, ho, rfl⟩ (e2 ▸ hk)⟩
        simpa using hput.mono hsame
      · cases hr
    · rename_i n z q j hpe
      split at hr
      · rename_i T z' k f ho
        split at hr
        · rename_i hz
          subst hz
          cases hr
          obtain ⟨hs1, hs2, hs3⟩ : (e x').cs.length = i.size ∧ q < k ∧ j + i.size ≤ z' := hsc
          rw [hpe] at h1; unfold CRel at h1
          obtain ⟨b, c, hR, hv⟩ := h1
          obtain ⟨hz0, ho'⟩ := h.obj n _ ho
          rcases ho' with ⟨hR', hk0⟩ | ⟨b', c', vs, hR', hg, hvs, hkc, hcm, hcell⟩
          · omega
          · rw [hR] at hR'; cases hR'
            have hfit : q * z' + j + i.size ≤ vs.size := by
              have : (q + 1) * z' ≤ c * z' := Nat.mul_le_mul_right _ (by omega)
              rw [Nat.add_mul] at this
              omega
            refine fin3 hv hR ho rfl hg (by omega) hfit (by simp [aTouch, hpe]) ?_ rfl
            refine ⟨hz0, .inr ⟨b, c, _, hR, setRow_heap w b vs _ T (0, 0) hg, ?_, hkc, hcm, ?_⟩⟩
            · simp; omega
            · have hsame : Ext R w I R (w.setRow b (vs.toList.take (q * z' + j) ++ (a.eval x).cells.toList ++ vs.toList.drop (q * z' + j + (a.eval x).cells.toList.length)).toArray) I :=
                ⟨List.prefix_rfl, fun _ hb => hb, fun k hk => setRow_other w b k _ fun e2 => h.iLive ⟨c, _, hR, ho, rfl⟩ (e2 ▸ hk)⟩
              intro i' j' hi' hj'
              have hcl : (a.eval x).cells.toList.length = i.size := by simp; omega
              by_cases hc : i' = q ∧ j ≤ j' ∧ j' < j + i.size
              · simp only [if_pos hc]
                obtain ⟨rfl, hc1, hc2⟩ := hc
                obtain ⟨u, hu, hcr⟩ := h2.get (j' - j) ((e x').cs.getD (j' - j) .und) (by rw [List.getD_eq_getElem?_getD, List.getElem?_eq_getElem (by omega)]; rfl)
                refine ⟨u, ?_, hcr.mono hsame⟩
                simp only [List.getElem?_toArray]
                rw [List.getElem?_append_left (by simp; omega), List.getElem?_append_right (by simp; omega)]
                rw [← hu]; congr 1; simp; omega
              · simp only [if_neg hc]
                obtain ⟨u, hu, hcr⟩ := hcell i' j' hi' hj'
                refine ⟨u, ?_, hcr.mono hsame⟩
                simp only [List.getElem?_toArray]
                have hout : i' * z' + j' < q * z' + j ∨ q * z' + j + i.size ≤ i' * z' + j' := by
                  rcases Nat.lt_trichotomy i' q with hlt | heq | hgt
                  · left
                    have : (i' + 1) * z' ≤ q * z' := Nat.mul_le_mul_right _ hlt
                    rw [Nat.add_mul] at this
                    omega
                  · subst heq
                    have : ¬ (j ≤ j' ∧ j' < j + i.size) := fun h => hc ⟨rfl, h⟩
                    omega
                  · right
                    have : (q + 1) * z' ≤ i' * z' := Nat.mul_le_mul_right _ hgt
                    rw [Nat.add_mul] at this
                    omega
                rcases hout with hlt | hge
                · rw [List.append_assoc, List.getElem?_append_left (by simp; omega), List.getElem?_take, if_pos hlt]
                  simpa using hu
                · rw [List.getElem?_append_right (by simp; omega), List.getElem?_drop]
                  rw [show (vs[i' * z' + j']? = some u) = (vs.toList[i' * z' + j']? = some u) by simp] at hu
                  rw [← hu]; congr 1; simp; omega
        · cases hr
      · cases hr
    · cases hr
  · cases hr
end
end Go.AM
