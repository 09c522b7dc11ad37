/- A part of the proof: lemmas. -/
import Derived.Test.YtdoekadmocabdaaAM12b
set_option linter.unusedVariables false
set_option linter.unusedSimpArgs false
namespace Go.AM
section
variable {P : Program} {X : Cx}

theorem keepH_trans : ∀ {l : List Nat} {h h' h'' : List AO}, keepH l h h' → keepH l h' h'' → keepH l h h''
  | [], _, _, _, _, _ => trivial
  | q :: l, h, h', h'', h1, h2 => ⟨h2.1.trans h1.1, keepH_trans h1.2 h2.2⟩

theorem drops_spec {P : Program} {ops : Array Oper} {b : Nat} (h : b ∈ drops P ops) : b < ops.size ∧ (((ops[b]?).map fun o => ((cOp P o).getD .other).quiet).getD true) = false ∧
    ∀ i, (((ops[i]?).map fun o => ((cOp P o).getD .other).mem).getD false) = true → waits .any ops i b = true := by
  unfold drops at h
  rw [List.mem_filter, List.mem_range] at h
  obtain ⟨h1, h2⟩ := h
  simp only [Bool.and_eq_true, Bool.not_eq_true', List.all_eq_true, List.mem_range, Bool.or_eq_true] at h2
  refine ⟨h1, h2.1, fun i hi => ?_⟩
  have hlt : i < ops.size := by
    refine Nat.lt_of_not_le fun hle => ?_
    rw [Array.getElem?_eq_none hle] at hi
    cases hi
  rcases h2.2 i hlt with h | h
  · rw [hi] at h; cases h
  · exact h

/-- A region that draws: 'Rs', 'ws', 'Is', 'Hs': where it began; 'hn': what is held. -/
theorem draw_sound {ops : Array Oper} {Q : Exit → Act → World → Prop} {K : St → Prop} {Rs : RL} {ws : World} {Is : Nat → Prop} {Hs : List AO} {hn : List Nat}
    (hnl : ∀ n, n ∈ hn → ∃ b c o, Rs[n]? = some (some (b, c)) ∧ Hs[n]? = some o ∧ o.live = true) (hsel : Region.noSelect ops = true)
    (hQ : ∀ (s' : St) R' w' I' (a' : Act), K s' → Sat X R' w' I' s'.h → CRelL R' w' I' s'.t a'.tmps.toList → a'.defers = [] → Q .normal a' w') (hpan : ∀ c a w, ¬ Q (.panic c) a w) :
    ∀ (n : Nat) (late : Bool) (listed : Array Bool) (order : List (Nat × Bool)) (s : St) (R : RL) (w : World) (I : Nat → Prop) (a : Act) (hc : List Nat), sched P ops n late listed = some order →
      adraw P (ops.toList.map (cOper P ops.toList)) (drops P ops) hc order late K s → Sat X R w I s.h → CRelL R w I s.t a.tmps.toList → a.defers = [] → Ext Rs ws Is R w I → (late = false → I = Is) →
      ((hc = hn ∧ (∀ b, b ∈ drops P ops → listed.getD b true = false) ∧ keepH hn Hs s.h ∧ Held Rs ws Is hn w) ∨ (hc = [] ∧ late = true ∧ ∃ b, b ∈ drops P ops ∧ listed.getD b true = true)) →
      wpAnyG P .any ops Q (Held Rs ws Is hn) (drops P ops) n listed a w
  | 0, late, listed, order, s, R, w, I, a, hc, ho, h, hs, ht, hd, hx, hl, hcur => by
    simp only [sched] at ho
    split at ho
    · rename_i hr
      cases ho
      refine ⟨hr, hQ s R w I a ?_ hs ht hd⟩
      simpa only [adraw] using h
    · cases ho
  | n+1, late, listed, order, s, R, w, I, a, hc, ho, h, hs, ht, hd, hx, hl, hcur => by
    have vac : ∀ {listed : Array Bool} {w : World}, (∃ b, b ∈ drops P ops ∧ listed.getD b true = true) → Sl (Held Rs ws Is hn) (drops P ops) listed w := by
      intro listed w ⟨b, hb, hb2⟩ hall
      have := hall b hb
      rw [hb2] at this; cases this
    -- behind one operation
    have go : ∀ {i : Nat} {order' : List (Nat × Bool)} {a' : Act} {w' : World}, i ∈ Region.ready .any ops listed → sched P ops n true (listed.setIfInBounds i true) = some order' →
        ((i ∈ drops P ops ∧ NX X R w I s [] (adraw P (ops.toList.map (cOper P ops.toList)) (drops P ops) [] order' true K) a' w') ∨ (i ∉ drops P ops ∧ NX X R w I s hc (adraw P (ops.toList.map (cOper P ops.toList)) (drops P ops) hc order' true K) a' w')) →
        Sl (Held Rs ws Is hn) (drops P ops) (listed.setIfInBounds i true) w' ∧ wpAnyG P .any ops Q (Held Rs ws Is hn) (drops P ops) n (listed.setIfInBounds i true) a' w' := by
      intro i order' a' w' hmem ho' hor
      have hlt : i < listed.size := by
        have h0 := (mem_ready.1 hmem).1
        refine Nat.lt_of_not_le fun hle => ?_
        simp [Array.getElem?_eq_none hle] at h0
      have hset : (listed.setIfInBounds i true).getD i true = true := by simp [hlt]
      rcases hor with ⟨hiB, s', R', I', hnx⟩ | ⟨hiB, s', R', I', hnx⟩
      · have hd2 : ∃ b, b ∈ drops P ops ∧ (listed.setIfInBounds i true).getD b true = true := ⟨i, hiB, hset⟩
        exact ⟨vac hd2, draw_sound hnl hsel hQ hpan n true _ order' s' R' w' I' a' [] ho' hnx.k hnx.sat hnx.t hnx.d (hx.trans hnx.ext) (fun h => by cases h) (.inr ⟨rfl, rfl, hd2⟩)⟩
      · rcases hcur with ⟨rfl, hun, hk, hSw⟩ | ⟨rfl, hlate, b, hb, hb2⟩
        · have hSw' : Held Rs ws Is hc w' := by
            refine ⟨fun b hb => (hnx.ext.b b (hx.i b hb)).trans (hSw.1 b hb), fun q hq b c hR => ?_⟩
            obtain ⟨b', c', o, h1, h2, h3⟩ := hnl q hq
            rw [hR] at h1; cases h1
            have hL : Live R s.h q b := ⟨c, o, pre_get hx.r hR, by rw [keepH_get hk q hq]; exact h2, h3⟩
            exact (hnx.kq q b hq hL).trans (hSw.2 q hq b c hR)
          have hun' : ∀ b, b ∈ drops P ops → (listed.setIfInBounds i true).getD b true = false := fun b hb => by
            rw [getD_set_ne true (fun h => hiB (by rw [h]; exact hb))]; exact hun b hb
          exact ⟨fun _ => hSw', draw_sound hnl hsel hQ hpan n true _ order' s' R' w' I' a' hc ho' hnx.k hnx.sat hnx.t hnx.d (hx.trans hnx.ext) (fun h => by cases h) (.inl ⟨rfl, hun', keepH_trans hk hnx.kh, hSw'⟩)⟩
        · have hd2 : ∃ b, b ∈ drops P ops ∧ (listed.setIfInBounds i true).getD b true = true := by
            refine ⟨b, hb, ?_⟩
            by_cases hib : i = b
            · subst hib; exact hset
            · rw [getD_set_ne true hib]; exact hb2
          exact ⟨vac hd2, draw_sound hnl hsel hQ hpan n true _ order' s' R' w' I' a' [] ho' hnx.k hnx.sat hnx.t hnx.d (hx.trans hnx.ext) (fun h => by cases h) (.inr ⟨rfl, rfl, hd2⟩)⟩
    -- a quiet one is taken
    have take : ∀ (i : Nat) (order' : List (Nat × Bool)), i ∈ Region.ready .any ops listed → Region.free .any ops listed i = true → (((ops[i]?).map fun o => ((cOp P o).getD .other).quiet).getD false) = true → sched P ops n late (listed.setIfInBounds i true) = some order' → order = (i, true) :: order' →
        wpAnyG P .any ops Q (Held Rs ws Is hn) (drops P ops) (n + 1) listed a w := by
      intro i order' hmem hfree hq ho' heq
      subst heq
      obtain ⟨o, hoi⟩ := ready_lt hmem
      have hiB : i ∉ drops P ops := fun hb => by
        have := (drops_spec hb).2.1
        simp only [hoi, Option.map_some, Option.getD_some] at this hq
        rw [this] at hq; cases hq
      have hwait : ∀ op, cOp P o = some op → op.mem = true → ∀ b, b ∈ drops P ops → waits .any ops i b = true := fun op hop hmm b hb => (drops_spec hb).2.2 i (by simp [hoi, hop, hmm])
      simp only [hoi, Option.map_some, Option.getD_some] at hq
      simp only [adraw, getD_map_ops hoi] at h
      cases hcc : cOp P o with
      | none => rw [hcc] at hq; simp [IOp.quiet] at hq
      | some op =>
        rw [hcc] at hq
        simp only [Option.getD_some] at hq
        -- what is read is held
        have same : ∀ {e : Opd → AV} {w2 : World}, keepH hn Hs s.h → Held Rs ws Is hn w → namesOk late op.mem (aNames op e) hn → Held Rs ws Is hn w2 → op.mem = true → Wsame R I (aNames op e) w w2 := by
          intro e w2 hk hSw hno hH hmm
          unfold namesOk at hno
          rw [hmm] at hno
          simp only at hno
          refine ⟨fun hnil b hb => ?_, fun q hq b c hR => ?_⟩
          · have hlf : late = false := by
              cases hlt : late with
              | false => rfl
              | true => exact absurd hnil (hno.2 hlt)
            have := hl hlf
            rw [this] at hb
            exact (hH.1 b hb).trans (hSw.1 b hb).symm
          · obtain ⟨b', c', o', h1, h2, h3⟩ := hnl q (hno.1 q hq)
            have := pre_get hx.r h1
            rw [hR] at this; cases this
            exact (hH.2 q (hno.1 q hq) b c h1).trans (hSw.2 q (hno.1 q hq) b c h1).symm
        -- under what it yields
        have choose : ∀ {e : Opd → AV}, namesOk late op.mem (aNames op e) hc →
            ∃ T : World → Prop, (∀ w2, T w2 → op.mem = true → Wsame R I (aNames op e) w w2) ∧ ((∀ w, T w) ∨ ((∀ w, Held Rs ws Is hn w → T w) ∧ (∀ b, b ∈ drops P ops → waits .any ops i b = true) ∧ ∀ b, b ∈ drops P ops → listed.getD b true = false)) := by
          intro e hno
          cases hmm : op.mem with
          | false => exact ⟨fun _ => True, fun _ _ h => (by cases h), .inl fun _ => trivial⟩
          | true =>
            rcases hcur with ⟨rfl, hun, hk, hSw⟩ | ⟨rfl, hlate, _⟩
            · exact ⟨Held Rs ws Is hc, fun w2 hH _ => same hk hSw hno hH hmm, .inr ⟨fun _ h => h, hwait op hcc hmm, hun⟩⟩
            · unfold namesOk at hno
              rw [hmm] at hno
              simp only at hno
              exfalso
              refine hno.2 hlate ?_
              cases hll : aNames op e with
              | nil => rfl
              | cons q r => exact absurd (hno.1 q (by rw [hll]; simp)) (by simp)
        have key : ∃ v s1, ∃ T : World → Prop, YieldsIf P ops T o v a ∧ ((∀ w, T w) ∨ ((∀ w, Held Rs ws Is hn w → T w) ∧ (∀ b, b ∈ drops P ops → waits .any ops i b = true) ∧ ∀ b, b ∈ drops P ops → listed.getD b true = false)) ∧
            adraw P (ops.toList.map (cOper P ops.toList)) (drops P ops) hc order' late K s1 ∧ s1.h = s.h ∧ CRelL R w I s1.t (a.put o.dst v).tmps.toList := by
          simp only [cOper] at h
          cases hg : o.guard with
          | none =>
            rw [hg] at h
            simp only [hcc, Option.getD_some] at h
            cases hxx : aop op (ev s.t) (ev s.t) s.h with
            | none => rw [hxx] at h; exact h.elim
            | some x =>
              rw [hxx] at h
              obtain ⟨hsc, hno, hk'⟩ := h
              obtain ⟨h1, v, hrun, hcr⟩ := quiet_sound hcc hq hxx hsc (he_raw ht _) (he_raw0 ht) hs.obj
              obtain ⟨T, hT1, hT2⟩ := choose hno
              exact ⟨v, _, T, .inl ⟨by simp [Region.wanted, hg], fun w2 hH => hrun w2 (hT1 w2 hH)⟩, hT2, hk', putH_h _ _ _ _, put_rel ht hcr s.h s rfl⟩
          | some gd =>
            obtain ⟨j, want⟩ := gd
            rw [hg] at h
            simp only at h
            split at h
            · exact h.elim
            · rename_i g hgo
              have hw := guard_rel (ops := ops) ht hg hgo
              simp only [hcc, Option.getD_some] at h
              split at h
              · obtain ⟨hgb, h2⟩ := h
                exact ⟨undef, _, fun _ => True, .inr ⟨by rw [hw, hgb], rfl⟩, .inl fun _ => trivial, h2, putH_h _ _ _ _, put_rel ht (by unfold CRel; exact ⟨fun hgt => (by cases hgt), fun _ => rfl⟩) s.h s rfl⟩
              · rename_i x hxx
                obtain ⟨h1, h2⟩ := h
                cases hgb : g with
                | true =>
                  obtain ⟨hok, hsc, hno⟩ := h1 hgb
                  obtain ⟨h3, v, hrun, hcr⟩ := quiet_sound hcc hq hxx hsc (he_bare ht hok) (he_raw0 ht) hs.obj
                  obtain ⟨T, hT1, hT2⟩ := choose hno
                  exact ⟨v, _, T, .inl ⟨by rw [hw, hgb], fun w2 hH => hrun w2 (hT1 w2 hH)⟩, hT2, h2, putH_h _ _ _ _, put_rel ht (by unfold CRel; exact ⟨fun _ => hcr, fun hf => (by rw [hgb] at hf; cases hf)⟩) s.h s rfl⟩
                | false =>
                  exact ⟨undef, _, fun _ => True, .inr ⟨by rw [hw, hgb], rfl⟩, .inl fun _ => trivial, h2, putH_h _ _ _ _, put_rel ht (by unfold CRel; exact ⟨fun hgt => (by rw [hgb] at hgt; cases hgt), fun _ => rfl⟩) s.h s rfl⟩
        obtain ⟨v, s1, T, hy, hT, hk', hsh, ht'⟩ := key
        have hSl : Sl (Held Rs ws Is hn) (drops P ops) listed w := by
          rcases hcur with ⟨_, _, _, hSw⟩ | ⟨_, _, h⟩
          · exact fun _ => hSw
          · exact vac h
        have hcur' : (hc = hn ∧ (∀ b, b ∈ drops P ops → (listed.setIfInBounds i true).getD b true = false) ∧ keepH hn Hs s1.h ∧ Held Rs ws Is hn w) ∨ (hc = [] ∧ late = true ∧ ∃ b, b ∈ drops P ops ∧ (listed.setIfInBounds i true).getD b true = true) := by
          rcases hcur with ⟨h1, h2, h3, h4⟩ | ⟨h1, h2, b, h3, h4⟩
          · exact .inl ⟨h1, fun b hb => (by rw [getD_set_ne true (fun h => hiB (by rw [h]; exact hb))]; exact h2 b hb), by rw [hsh]; exact h3, h4⟩
          · exact .inr ⟨h1, h2, b, h3, by rw [getD_set_ne true (fun h => hiB (by rw [h]; exact h3))]; exact h4⟩
        exact wpAnyG_first (T := T) hoi (Region.noSelect_spec hsel) (fun c a w hq => absurd hq (hpan c _ w)) hiB n listed a w (Region.free_spec hoi hfree) hmem hy hSl hT
          (draw_sound hnl hsel hQ hpan n late _ order' s1 R w I (a.put o.dst v) hc ho' hk' (by rw [hsh]; exact hs) ht' (by rw [put_defers]; exact hd) hx hl hcur')
    simp only [sched] at ho
    split at ho
    · rename_i i hfind
      obtain ⟨order', ho', rfl⟩ := Option.map_eq_some_iff.1 ho
      obtain ⟨hmem, hp⟩ := mem_find hfind
      obtain ⟨o, hoi⟩ := ready_lt hmem
      simp only [hoi, Option.map_some, Option.getD_some, Bool.and_eq_true] at hp
      exact take i order' hmem hp.1 (by simp only [hoi, Option.map_some, Option.getD_some]; exact hp.2.1) ho' rfl
    · split at ho
      · rename_i i hri
        obtain ⟨order', ho', rfl⟩ := Option.map_eq_some_iff.1 ho
        have hmem : i ∈ Region.ready .any ops listed := by rw [hri]; simp
        obtain ⟨o, hoi⟩ := ready_lt hmem
        simp only [adraw, getD_map_ops hoi] at h
        refine ⟨fun h0 => (by rw [h0] at hmem; cases hmem), fun j hj => ?_⟩
        rw [hri] at hj
        simp only [List.mem_singleton] at hj
        subst hj
        have fin : ∀ {kp : List Nat}, aone P (cOper P ops.toList o) kp (adraw P (ops.toList.map (cOper P ops.toList)) (drops P ops) kp order' true K) s → (∀ {a' w'}, NX X R w I s kp (adraw P (ops.toList.map (cOper P ops.toList)) (drops P ops) kp order' true K) a' w' →
              Sl (Held Rs ws Is hn) (drops P ops) (listed.setIfInBounds j true) w' ∧ wpAnyG P .any ops Q (Held Rs ws Is hn) (drops P ops) n (listed.setIfInBounds j true) a' w') →
            wpOp P ops Q j (fun a' w' => Sl (Held Rs ws Is hn) (drops P ops) (listed.setIfInBounds j true) w' ∧ wpAnyG P .any ops Q (Held Rs ws Is hn) (drops P ops) n (listed.setIfInBounds j true) a' w') a w := by
          intro kp h hgo
          rcases one_sound (Q := Q) (ops := ops) h hs ht hd with ⟨hw, h1⟩ | ⟨hw, h1⟩
          · unfold wpOp
            simp only [hoi, hw, if_true]
            left
            exact Oper.wp_mono (fun a' w' hnx => hgo hnx) h1
          · unfold wpOp
            simp only [hoi, hw, Bool.false_eq_true, if_false]
            exact hgo h1
        cases hB : (drops P ops).contains j with
        | true =>
          rw [hB] at h
          exact fin h fun hnx => go hmem ho' (.inl ⟨by simpa using hB, hnx⟩)
        | false =>
          rw [hB] at h
          exact fin h fun hnx => go hmem ho' (.inr ⟨by simpa using hB, hnx⟩)
      · split at ho
        · rename_i i hfind
          obtain ⟨order', ho', rfl⟩ := Option.map_eq_some_iff.1 ho
          obtain ⟨hmem, hp⟩ := mem_find hfind
          simp only [Bool.and_eq_true] at hp
          exact take i order' hmem hp.1 hp.2 ho' rfl
        · cases ho

theorem drawNames_live {R : RL} {w : World} {I : Nat → Prop} {s : St} {tmps : Array Value} (ht : CRelL R w I s.t tmps.toList) : ∀ (rts : List Nat) (n : Nat), n ∈ drawNames s rts → ∃ b c o, R[n]? = some (some (b, c)) ∧ s.h[n]? = some o ∧ o.live = true
  | [], n, h => by cases h
  | t :: r, n, h => by
    have ih := drawNames_live ht r n
    have get : ∀ {q : Nat}, ((s.h.getD q .dead).live) = true → ∃ o, s.h[q]? = some o ∧ o.live = true := by
      intro q hq
      rw [List.getD_eq_getElem?_getD] at hq
      cases hh : s.h[q]? with
      | none => rw [hh] at hq; simp [AO.live] at hq
      | some o => rw [hh] at hq; exact ⟨o, rfl, hq⟩
    have hv := ht.getD t
    unfold drawNames at h
    split at h
    · rename_i q off hq
      rw [hq] at hv
      unfold CRel at hv
      obtain ⟨b, c, h1, _⟩ := hv
      split at h
      · rename_i hlive
        rcases List.mem_cons.1 h with rfl | h
        · obtain ⟨o, h2, h3⟩ := get hlive
          exact ⟨b, c, o, h1, h2, h3⟩
        · exact ih h
      · exact ih h
    · rename_i q z i j hq
      rw [hq] at hv
      unfold CRel at hv
      obtain ⟨b, c, h1, _⟩ := hv
      split at h
      · rename_i hlive
        rcases List.mem_cons.1 h with rfl | h
        · obtain ⟨o, h2, h3⟩ := get hlive
          exact ⟨b, c, o, h1, h2, h3⟩
        · exact ih h
      · exact ih h
    · rename_i q z len hq
      rw [hq] at hv
      unfold CRel at hv
      split at h
      · rename_i hlive
        rcases List.mem_cons.1 h with rfl | h
        · obtain ⟨o, h2, h3⟩ := get hlive.1
          rcases hv with ⟨_, h4, _⟩ | ⟨b, c, h1, _⟩
          · have := hlive.2; omega
          · exact ⟨b, c, o, h1, h2, h3⟩
        · exact ih h
      · exact ih h
    · exact ih h
end
end Go.AM
