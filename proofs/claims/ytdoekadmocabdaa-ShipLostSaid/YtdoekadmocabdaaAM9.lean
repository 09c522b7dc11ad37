/- A part of the proof: lemmas. -/
import Derived.Test.YtdoekadmocabdaaAM8
set_option linter.unusedVariables false
set_option linter.unusedSimpArgs false
namespace Go.AM
section
variable {P : Program} {X : Cx} {R : RL} {w w' : World} {I : Nat → Prop} {H H1 : List AO}
variable {a : Act} {e e0 : Opd → AV} {r : SR} {dst : Option Tmp} {ty : TypeId} {pos : String} {after : Array Edge} {guard : Option (Nat × Bool)}

/-- What is behind an append: 'v', 'xs' what was owned, 'news' what comes, 'g', 'f' how they read. -/
theorem append_core (h : Sat X R w I H) {el s n m : Nat} {g f : Nat → Nat → AV} {xs news : List Value} {v v' : Value} (hs0 : 0 < s) (hmax : n + m ≤ 140737488355328) (hH1 : H1.length = H.length)
    (hH : ∀ (k : Nat) (o : AO), H1[k]? = some o → o.live = true → H[k]? = some o) (hxl : xs.length = n * s) (hnl : news.length = m * s)
    (hx : ∀ i j, i < n → j < s → ∃ u, xs[i * s + j]? = some u ∧ CRel R w I (g i j) u) (hy : ∀ i j, i < m → j < s → ∃ u, news[i * s + j]? = some u ∧ CRel R w I (f i j) u)
    (hown : w'.ownsRow 0 el s v' (n + m) (xs ++ news)) (hg : w.grownBy w' v.ownBlock) (hat : v'.ownBlock = v.ownBlock ∨ v'.ownBlock = some w.heap.size)
    (hv : v.ownBlock = none ∨ ∃ k b, v.ownBlock = some b ∧ Live R H k b ∧ ¬ Live R H1 k b) :
    ∃ en, CRel (R ++ [en]) w' I (.own H.length s (n + m)) v' ∧
      Sat X (R ++ [en]) w' I (H1 ++ [.row el s (n + m) (fun i => if i < n then g i else f (i - n))]) ∧ Ext R w I (R ++ [en]) w' I := by
  -- the block that may have been written
  have hold : ∀ q, v.ownBlock = some q → ¬ I q ∧ (X.C q ∨ X.w0.heap.size ≤ q) ∧ q < w.heap.size ∧ ∀ k, ¬ Live R H1 k q := by
    intro q hq
    rcases hv with hv | ⟨k, b', hv, hl, hnl⟩
    · rw [hv] at hq; cases hq
    · rw [hv] at hq; cases hq
      refine ⟨h.iLive hl, (h.sep k q hl).2, h.lt hl, fun k' hk' => ?_⟩
      obtain ⟨c', o, h1, h2, h3⟩ := hk'
      have : k' = k := h.inj k' k q ⟨c', o, h1, hH k' o h2 h3, h3⟩ hl
      subst this
      exact hnl ⟨c', o, h1, h2, h3⟩
  have ext : ∀ en, Ext R w I (R ++ [en]) w' I := fun en =>
    ⟨List.prefix_append _ _, fun _ hb => hb, fun q hq => hg.block q (h.imm q hq) fun e => (hold q e.symm).1 hq⟩
  rcases hown.2 with ⟨h0, hv0⟩ | ⟨b, c, cur, rfl, _, hb, hnc, hcm, hcs, htake⟩
  · refine ⟨none, ?_, ?_, ext none⟩
    · unfold CRel
      exact .inl ⟨by simp [h.len], by omega, by first | exact hv0 | exact h0⟩
    · refine (h.step (fun q => v.ownBlock = some q) _ _ hH1 hH (fun q hq ht => hg.block q hq fun e => ht e.symm) (fun k q hk ht => (hold q ht).2.2.2 k hk) (fun q ht => (hold q ht).1) (fun q ht => (hold q ht).2.1) ?_ ?_ hg.os hg.tape hg.output hg.size).1
      · intro q c' hq; cases hq
      · exact ⟨hs0, .inl ⟨by simp [h.len], by omega⟩⟩
  have ext := ext (some (b, c))
  refine ⟨some (b, c), by unfold CRel; exact .inr ⟨b, c, by simp [h.len], hnc, rfl⟩, ?_⟩
  refine h.step (fun q => v.ownBlock = some q) _ _ hH1 hH (fun q hq ht => hg.block q hq fun e => ht e.symm) (fun k q hk ht => (hold q ht).2.2.2 k hk) (fun q ht => (hold q ht).1) (fun q ht => (hold q ht).2.1) ?_ ?_ hg.os hg.tape hg.output hg.size
  · intro q c' hq
    cases hq
    rcases hat with hat | hat
    · simp only [Value.ownBlock] at hat
      exact ⟨.inr hat.symm, (hold b hat.symm).2.2.2⟩
    · simp only [Value.ownBlock, Option.some.injEq] at hat
      subst hat
      refine ⟨.inl (Nat.le_refl _), fun k hk => ?_⟩
      obtain ⟨c', o, h1, h2, h3⟩ := hk
      have := h.lt (n := k) (b := w.heap.size) ⟨c', o, h1, hH k o h2 h3, h3⟩
      omega
  · refine ⟨hs0, .inr ⟨b, c, cur, by simp [h.len], hb, hcs, hnc, hcm, fun i j hi hj => ?_⟩⟩
    have hij : i * s + j < (n + m) * s := by
      have : (i + 1) * s ≤ (n + m) * s := Nat.mul_le_mul_right _ hi
      rw [Nat.add_mul] at this; omega
    have hcur : cur[i * s + j]? = (xs ++ news)[i * s + j]? := by
      rw [← htake, List.getElem?_take, if_pos hij]; simp
    rw [hcur]
    by_cases hin : i < n
    · have h1 : i * s + j < n * s := by
        have : (i + 1) * s ≤ n * s := Nat.mul_le_mul_right _ hin
        rw [Nat.add_mul] at this; omega
      rw [List.getElem?_append_left (by omega)]
      obtain ⟨u, hu, hr⟩ := hx i j hin hj
      exact ⟨u, hu, by simp only [if_pos hin]; exact hr.mono ext⟩
    · have h1 : n * s ≤ i * s := Nat.mul_le_mul_right _ (by omega)
      rw [List.getElem?_append_right (by omega)]
      obtain ⟨u, hu, hr⟩ := hy (i - n) j (by omega) hj
      refine ⟨u, ?_, by simp only [if_neg hin]; exact hr.mono ext⟩
      rw [← hu]; congr 1
      rw [Nat.sub_mul]; omega

theorem run_append_none {t ty el : TypeId} {i : TypeInfo} {s n cc : Nat} {v : Value} {xs : List Value} {A : Option Addr} (hu : P.underlying t = some (.slice el)) (hi : P.info? el = some i) (hown : w.ownsRow 0 el s v n xs) :
    (Builtin.append_ #[t, t] ty #[v, .slice A 0 cc]).run P w = .ok v w := by
  rcases hown.2 with ⟨h0, hv0⟩ | ⟨b, c, cur, rfl, _, hb, hnc, hcm, hcs, htake⟩
  · have hv : v = .slice none 0 0 := by first | exact hv0 | exact h0
    subst hv
    cases A <;> simp [Builtin.append_, run_underlying hu, sizeOf, typeInfo, hi, Builtin.lenOf, Builtin.firstCells, loadCells, loadCellsFrom]
  · cases A <;> simp [Builtin.append_, run_underlying hu, sizeOf, typeInfo, hi, Builtin.lenOf, Builtin.firstCells, loadCells, loadCellsFrom, storeCells, hnc]

/-- The bytes (cells) that are appended. -/
theorem news_of {s m : Nat} {f : Nat → Nat → AV} {b o : Nat} (hs0 : 0 < s) (hc : ∀ i j, i < m → j < s → ∃ u, w.cell? ⟨b, o + (i * s + j), none⟩ = some u ∧ CRel R w I (f i j) u) (h1 : ∀ i j, i < m → j < s → (f i j).one = true) :
    ∃ news : List Value, news.length = m * s ∧ (∀ j u, news[j]? = some u → w.cell? ((⟨b, o, none⟩ : Addr).add j) = some u) ∧ (∀ u ∈ news, u.oneCell' = true) ∧ ∀ i j, i < m → j < s → ∃ u, news[i * s + j]? = some u ∧ CRel R w I (f i j) u := by
  have hch : ∀ q : Nat, ∃ u : Value, q < m * s → w.cell? ⟨b, o + q, none⟩ = some u ∧ CRel R w I (f (q / s) (q % s)) u := fun q => by
    by_cases hq : q < m * s
    · have h2 : q / s < m := Nat.div_lt_of_lt_mul (by rw [Nat.mul_comm]; exact hq)
      obtain ⟨u, hu, hr⟩ := hc (q / s) (q % s) h2 (Nat.mod_lt _ hs0)
      have : q / s * s + q % s = q := Nat.div_add_mod' q s
      rw [this] at hu
      exact ⟨u, fun _ => ⟨hu, hr⟩⟩
    · exact ⟨undef, fun h => absurd h hq⟩
  obtain ⟨g, hg⟩ := Classical.axiomOfChoice hch
  have get : ∀ q, q < m * s → ((List.range (m * s)).map g)[q]? = some (g q) := by
    intro q hq
    simp [hq]
  refine ⟨(List.range (m * s)).map g, by simp, ?_, ?_, ?_⟩
  · intro j u hj
    have hlt : j < m * s := by have := (List.getElem?_eq_some_iff.1 hj).1; simpa using this
    rw [get j hlt] at hj; cases hj
    rw [Addr.add_lit]; exact (hg j hlt).1
  · intro u hu
    obtain ⟨q, hq, rfl⟩ := List.mem_map.1 hu
    have hlt : q < m * s := by simpa using hq
    have h2 : q / s < m := Nat.div_lt_of_lt_mul (by rw [Nat.mul_comm]; exact hlt)
    exact ((hg q hlt).2.one (h1 _ _ h2 (Nat.mod_lt _ hs0))).1
  · intro i j hi hj
    have hij : i * s + j < m * s := by
      have : (i + 1) * s ≤ m * s := Nat.mul_le_mul_right _ hi
      rw [Nat.add_mul] at this; omega
    refine ⟨g (i * s + j), get _ hij, ?_⟩
    have := (hg _ hij).2
    have e1 : (i * s + j) / s = i := by
      rw [Nat.mul_comm, Nat.mul_add_div hs0, Nat.div_eq_of_lt hj, Nat.add_zero]
    have e2 : (i * s + j) % s = j := by
      rw [Nat.mul_comm, Nat.mul_add_mod, Nat.mod_eq_of_lt hj]
    rw [e1, e2] at this; exact this

theorem l_append {c : Call} {x y : Operand} {x' y' : Opd} {tys : Array TypeId} {t0 el s b : Nat} {z : List KV} (hc : c = { callee := .builtin .append, args := #[x, y], argTypes := tys }) (ht : tys = #[t0, t0]) (hes : elemSz P t0 = some (el, s, b)) (hz : zeroOf P el = some z) (hzl : z.length = s)
    (hx : opdOf x = some x') (hy : opdOf y = some y') (hr : aop (.append el s b x' y') e e0 H = some r) (hsc : r.sc) (h : Sat X R w I H)
    (he : ∀ x z, opdOf x = some z → z ∈ (IOp.append el s b x' y').opds → CRel R w I (e z) (a.eval x)) : Loud P ⟨dst, .call c, ty, pos, after, guard⟩ a X R w I H (aTouch (.append el s b x' y') e) r := by
  subst hc
  subst ht
  obtain ⟨hu, i, hi, hs, hb⟩ := elemSz_eq hes
  obtain ⟨i', zv, hi', hzv, hzl', hzr⟩ := zeroOf_eq hz
  rw [hi] at hi'; cases hi'
  have hzc : zv.cells.size = s := by simp only [Array.length_toList] at hzl'; omega
  have h1 := he x x' hx (by simp [IOp.opds])
  have h2 := he y y' hy (by simp [IOp.opds])
  -- the core: what was owned, what comes
  have core : ∀ {n m : Nat} {g f : Nat → Nat → AV} {xs : List Value} {A : Option Addr} {cc : Nat} {H1 : List AO}, 0 < s → (n + m) * b ≤ 140737488355328 → n + m ≤ 140737488355328 → H1.length = H.length →
      (∀ (k : Nat) (o : AO), H1[k]? = some o → o.live = true → H[k]? = some o) → w.ownsRow 0 el s (a.eval x) n xs → (∀ i j, i < n → j < s → ∃ u, xs[i * s + j]? = some u ∧ CRel R w I (g i j) u) →
      a.eval y = .slice A m cc → (0 < m → ∃ bb oo, A = some ⟨bb, oo, none⟩ ∧ ∀ i j, i < m → j < s → ∃ u, w.cell? ⟨bb, oo + (i * s + j), none⟩ = some u ∧ CRel R w I (f i j) u) → (∀ i j, i < m → j < s → (f i j).one = true) →
      ((a.eval x).ownBlock = none ∨ ∃ k b, (a.eval x).ownBlock = some b ∧ Live R H k b ∧ ¬ Live R H1 k b ∧ k ∈ aTouch (.append el s b x' y') e) →
      r = ⟨r.sc, .own H.length s (n + m), H1 ++ [.row el s (n + m) (fun i => if i < n then g i else f (i - n))]⟩ →
      Loud P ⟨dst, .call { callee := .builtin .append, args := #[x, y], argTypes := #[t0, t0] }, ty, pos, after, guard⟩ a X R w I H (aTouch (.append el s b x' y') e) r := by
    intro n m g f xs A cc H1 hs0 hbytes hmax hH1 hH hown hxr hv hA hone hvb hre
    have run : ∃ news v' w', news.length = m * s ∧ (∀ i j, i < m → j < s → ∃ u, news[i * s + j]? = some u ∧ CRel R w I (f i j) u) ∧ (Builtin.append_ #[t0, t0] ty #[a.eval x, a.eval y]).run P w = .ok v' w' ∧
        w'.ownsRow 0 el s v' (n + m) (xs ++ news) ∧ w.grownBy w' (a.eval x).ownBlock ∧ (v'.ownBlock = (a.eval x).ownBlock ∨ v'.ownBlock = some w.heap.size) := by
      by_cases hm : 0 < m
      · obtain ⟨bb, oo, rfl, hcell⟩ := hA hm
        obtain ⟨news, hnl, hn1, hn2, hn3⟩ := news_of hs0 hcell hone
        obtain ⟨v', w', hrun, hown', hg, _, hat⟩ := run_append_own_at (P := P) w 0 t0 ty el i zv s b hu hi hzv hs hb hzc hs0 (a.eval x) n xs hown ⟨bb, oo, none⟩ m cc news hnl hn1 hn2 (by unfold maxLen; omega) hbytes (Nat.zero_le _)
        exact ⟨news, v', w', hnl, hn3, by rw [hv]; exact hrun, hown', hg, hat⟩
      · obtain rfl : m = 0 := by omega
        refine ⟨[], a.eval x, w, by simp, fun i j hi _ => absurd hi (by omega), ?_, by simpa using hown, ⟨rfl, rfl, rfl, Nat.le_refl _, fun _ _ _ => rfl⟩, .inl rfl⟩
        rw [hv]
        exact run_append_none hu hi hown
    obtain ⟨news, v', w', hnl, hn3, hrun, hown', hg, hat⟩ := run
    obtain ⟨en, hcr, hsat, hext⟩ := append_core h hs0 hmax hH1 hH hown.1 hnl hxr hn3 hown' hg hat (hvb.imp id fun ⟨k, b, h1, h2, h3, _⟩ => ⟨k, b, h1, h2, h3⟩)
    refine ⟨v', w', _, I, .inl ?_, by rw [hre]; exact hsat, ?_, hext, fun q k hk hnt => hg.block k (h.lt hk) fun e2 => ?_⟩
    · simp [execOp, resolve, invoke, builtin, hrun]
    · rw [hre]; exact hcr
    · rcases hvb with hvb | ⟨k', b', h1, h2, _, h4⟩
      · rw [hvb] at e2; cases e2
      · rw [h1] at e2; cases e2
        have := h.inj _ _ _ hk h2
        exact hnt (this ▸ h4)
  simp only [aop] at hr
  -- the sources
  have srcOwn : ∀ {k m n2 T2 : Nat} {f : Nat → Nat → AV}, e y' = .own k s m → H[k]? = some (.row T2 s n2 f) → m ≤ n2 → ∃ A cc, a.eval y = .slice A m cc ∧ (0 < m → ∃ bb oo, A = some ⟨bb, oo, none⟩ ∧ ∀ i j, i < m → j < s → ∃ u, w.cell? ⟨bb, oo + (i * s + j), none⟩ = some u ∧ CRel R w I (f i j) u) := by
    intro k m n2 T2 f hye hk hmn
    rw [hye] at h2
    unfold CRel at h2
    obtain ⟨hs0, ho⟩ := h.obj k _ hk
    rcases h2 with ⟨hR', h0, hv⟩ | ⟨b3, c3, hR', hmc, hv⟩
    · subst h0
      exact ⟨none, 0, hv, fun h => absurd h (by omega)⟩
    · rcases ho with ⟨hR, h0⟩ | ⟨b2, c2, vs, hR, hg, hvs, hkc, hcm, hcell⟩
      · rw [hR] at hR'; cases hR'
      · rw [hR] at hR'; cases hR'
        refine ⟨_, _, hv, fun _ => ⟨_, 0, rfl, fun i j hi hj => ?_⟩⟩
        obtain ⟨u, hu, hr⟩ := hcell i j (by omega) hj
        exact ⟨u, by rw [Nat.zero_add, cell_of_block hg]; exact hu, hr⟩
  have srcPsl : ∀ {m : Nat} {f : Nat → Nat → AV}, e y' = .psl s m f → ∃ A cc, a.eval y = .slice A m cc ∧ (0 < m → ∃ bb oo, A = some ⟨bb, oo, none⟩ ∧ ∀ i j, i < m → j < s → ∃ u, w.cell? ⟨bb, oo + (i * s + j), none⟩ = some u ∧ CRel R w I (f i j) u) := by
    intro m f hye
    rw [hye] at h2
    unfold CRel at h2
    obtain ⟨A, c, hv, _, _, hcell⟩ := h2
    refine ⟨A, c, hv, fun hm => ?_⟩
    obtain ⟨bb, oo, rfl, hI, hc2⟩ := hcell hm
    exact ⟨bb, oo, rfl, hc2⟩
  -- the owned
  have nilOwn : e x' = .nils → a.eval x = .slice none 0 0 ∧ w.ownsRow 0 el s (a.eval x) 0 [] := by
    intro hxe
    rw [hxe] at h1; unfold CRel at h1
    rw [h1]
    exact ⟨rfl, World.ownsRow_nil w 0 el s⟩
  have rowOwn : ∀ {k n n' : Nat} {g : Nat → Nat → AV}, e x' = .own k s n → H[k]? = some (.row el s n' g) → n ≤ n' → 0 < s →
      ∃ xs, w.ownsRow 0 el s (a.eval x) n xs ∧ (∀ i j, i < n → j < s → ∃ u, xs[i * s + j]? = some u ∧ CRel R w I (g i j) u) ∧
        ((a.eval x).ownBlock = none ∨ ∃ q b2, (a.eval x).ownBlock = some b2 ∧ Live R H q b2 ∧ ¬ Live R (H.set k .dead) q b2 ∧ q ∈ aTouch (.append el s b x' y') e) := by
    intro k n n' g hxe hk hnn hs0
    rw [hxe] at h1
    unfold CRel at h1
    obtain ⟨_, ho⟩ := h.obj k _ hk
    rcases h1 with ⟨hR, hn0, hv⟩ | ⟨b2, c2, hR, hnc, hv⟩
    · subst hn0
      rw [hv]
      exact ⟨[], World.ownsRow_nil w 0 el s, fun i j hi _ => absurd hi (by omega), .inl rfl⟩
    · rcases ho with ⟨hR', h0⟩ | ⟨b3, c3, vs, hR', hg, hvs, hkc, hcm, hcell⟩
      · rw [hR] at hR'; cases hR'
      · rw [hR] at hR'; cases hR'
        rw [hv]
        have hle : n * s ≤ vs.size := by rw [hvs]; exact Nat.mul_le_mul_right _ hnc
        refine ⟨vs.toList.take (n * s), ⟨by simp; omega, .inr ⟨b2, c2, vs, rfl, Nat.zero_le _, hg, hnc, hcm, hvs, rfl⟩⟩, fun i j hi hj => ?_, .inr ⟨k, b2, rfl, ⟨c2, _, hR, hk, rfl⟩, ?_, by simp [aTouch, hxe]⟩⟩
        · obtain ⟨u, hu, hr⟩ := hcell i j (by omega) hj
          refine ⟨u, ?_, hr⟩
          have : i * s + j < n * s := by
            have : (i + 1) * s ≤ n * s := Nat.mul_le_mul_right _ hi
            rw [Nat.add_mul] at this; omega
          rw [List.getElem?_take, if_pos this]
          simpa using hu
        · intro ⟨c', o, h1, h2, h3⟩
          rw [List.getElem?_set_self (List.getElem?_eq_some_iff.1 hk).1] at h2
          cases h2; simp [AO.live] at h3
  have deadH : ∀ (k q : Nat) (o : AO), (H.set k .dead)[q]? = some o → o.live = true → H[q]? = some o := by
    intro k q o hq hl
    by_cases hkq : k = q
    · subst hkq
      by_cases hkl : k < H.length
      · rw [List.getElem?_set_self hkl] at hq
        cases hq; simp [AO.live] at hl
      · rw [List.getElem?_eq_none (by simp; omega)] at hq; cases hq
    · rw [List.getElem?_set_ne hkq] at hq; exact hq
  unfold aAppend at hr
  split at hr
  · rename_i k s' m hxe hye
    split at hr
    · rename_i T2 sk n2 f hk
      split at hr
      · rename_i hss
        obtain ⟨rfl, rfl⟩ := hss
        cases hr
        obtain ⟨hs0, hmn, hbytes, hmax, hone⟩ := hsc
        obtain ⟨A, cc, hv, hcell⟩ := srcOwn hye hk hmn
        obtain ⟨hvx, hown⟩ := nilOwn hxe
        have := core (n := 0) (m := m) (g := f) (f := f) (xs := []) (H1 := H) hs0 (by simpa using hbytes) (by omega) rfl (fun _ _ h _ => h) hown (fun i j hi _ => absurd hi (by omega)) hv hcell hone (.inl (by rw [hvx]; rfl))
        exact this (by simp)
      · cases hr
    · cases hr
  · rename_i k' s'' n k s' m hxe hye
    split at hr
    · rename_i T' sk' n' g T2 sk n2 f hk' hk
      split at hr
      · rename_i hss
        obtain ⟨rfl, rfl, rfl, rfl, rfl, hkk⟩ := hss
        cases hr
        obtain ⟨hs0, hnn, hmn, hbytes, hmax, hone⟩ := hsc
        obtain ⟨A, cc, hv, hcell⟩ := srcOwn hye hk hmn
        obtain ⟨xs, hown, hxr, hvb⟩ := rowOwn hxe hk' hnn hs0
        exact core (n := n) (m := m) (g := g) (f := f) (H1 := H.set k' .dead) hs0 hbytes hmax (by simp) (deadH k') hown hxr hv hcell hone hvb rfl
      · cases hr
    · cases hr
  · rename_i k' s'' n s' m f hxe hye
    split at hr
    · rename_i T' sk' n' g hk'
      split at hr
      · rename_i hss
        obtain ⟨rfl, rfl, rfl, rfl⟩ := hss
        cases hr
        obtain ⟨hs0, hnn, hbytes, hmax, hone⟩ := hsc
        obtain ⟨A, cc, hv, hcell⟩ := srcPsl hye
        obtain ⟨xs, hown, hxr, hvb⟩ := rowOwn hxe hk' hnn hs0
        exact core (n := n) (m := m) (g := g) (f := f) (H1 := H.set k' .dead) hs0 hbytes hmax (by simp) (deadH k') hown hxr hv hcell hone hvb rfl
      · cases hr
    · cases hr
  · rename_i s' m f hxe hye
    split at hr
    · rename_i hss
      subst hss
      cases hr
      obtain ⟨hs0, hbytes, hmax, hone⟩ := hsc
      obtain ⟨A, cc, hv, hcell⟩ := srcPsl hye
      obtain ⟨hvx, hown⟩ := nilOwn hxe
      have := core (n := 0) (m := m) (g := f) (f := f) (xs := []) (H1 := H) hs0 (by simpa using hbytes) (by omega) rfl (fun _ _ h _ => h) hown (fun i j hi _ => absurd hi (by omega)) hv hcell hone (.inl (by rw [hvx]; rfl))
      exact this (by simp)
    · cases hr
  · cases hr

theorem freeze_heap {w : World} {b : Nat} {vs : Array Value} {T : TypeId} (hg : w.heap[b]? = some (.cells vs T (0, 0))) :
    (w.freeze ⟨b, vs.size, none⟩ 1).heap[b]? = some (.cells vs T (vs.size, vs.size + 1)) ∧ (∀ q, q ≠ b → (w.freeze ⟨b, vs.size, none⟩ 1).heap[q]? = w.heap[q]?) ∧ (w.freeze ⟨b, vs.size, none⟩ 1).heap.size = w.heap.size := by
  have hlt : b < w.heap.size := (Array.getElem?_eq_some_iff.1 hg).1
  have hv : w.heap[b] = .cells vs T (0, 0) := (Array.getElem?_eq_some_iff.1 hg).2
  refine ⟨?_, fun q hq => ?_, by simp [World.freeze]⟩
  · unfold World.freeze
    rw [if_neg (by omega)]
    simp only
    rw [Array.getElem?_eq_getElem (by simpa using hlt), Array.getElem_modify]
    simp [hv]
  · unfold World.freeze
    rw [if_neg (by omega)]
    simp only
    rw [Array.getElem?_modify, if_neg (Ne.symm hq)]

/-- An object that is never written any more. -/
theorem Sat.frozen (h : Sat X R w I H) {k b c : Nat} {o : AO} (hR : R[k]? = some (some (b, c))) (hk : H[k]? = some o) (hl : o.live = true)
    (hT : ∀ q, q < w.heap.size → q ≠ b → w'.heap[q]? = w.heap[q]?) (hos : w'.os = w.os) (htape : w'.tape = w.tape) (hout : w'.output = w.output) (hsz : w'.heap.size = w.heap.size) :
    Sat X R w' (fun q => I q ∨ q = b) (H.set k .dead) ∧ Ext R w I R w' (fun q => I q ∨ q = b) := by
  have hL : Live R H k b := ⟨c, o, hR, hk, hl⟩
  have hbI : ¬ I b := h.iLive hL
  have hI : ∀ q, I q → w'.heap[q]? = w.heap[q]? := fun q hq => hT q (h.imm q hq) fun e => hbI (e ▸ hq)
  have ext : Ext R w I R w' (fun q => I q ∨ q = b) := ⟨List.prefix_rfl, fun _ hb => .inl hb, hI⟩
  have back : ∀ m q, Live R (H.set k .dead) m q → Live R H m q ∧ m ≠ k := by
    intro m q ⟨c', p, h1, h2, h3⟩
    by_cases hm : m = k
    · subst hm
      rw [List.getElem?_set_self (List.getElem?_eq_some_iff.1 hk).1] at h2
      cases h2; simp [AO.live] at h3
    · rw [List.getElem?_set_ne (Ne.symm hm)] at h2
      exact ⟨⟨c', p, h1, h2, h3⟩, hm⟩
  refine ⟨⟨by simpa using h.len, h.pin, ?_, fun m n q hm hn => h.inj m n q (back _ _ hm).1 (back _ _ hn).1, ?_, ?_, fun q hq => .inl (h.i0 q hq), fun q hq => (hI q (h.i0 q hq)).trans (h.i0s q hq), ?_, ?_,
    hos.trans h.os, htape.trans h.tape, hout.trans h.output, by rw [hsz]; exact h.size⟩, ext⟩
  · intro m p hp
    cases hlive : p.live with
    | false => cases p <;> simp [AO.live] at hlive; trivial
    | true =>
      by_cases hm : m = k
      · subst hm
        rw [List.getElem?_set_self (List.getElem?_eq_some_iff.1 hk).1] at hp
        cases hp; simp [AO.live] at hlive
      · rw [List.getElem?_set_ne (Ne.symm hm)] at hp
        refine (h.obj m p hp).mono ext fun q c' hq => ?_
        have hLm : Live R H m q := ⟨c', p, hq, hp, hlive⟩
        exact hT q (h.lt hLm) fun e => hm (h.inj m k b (e ▸ hLm) hL)
  · intro m q hm
    obtain ⟨h1, h2⟩ := back m q hm
    refine ⟨fun hq => ?_, (h.sep m q h1).2⟩
    rcases hq with hq | hq
    · exact h.iLive h1 hq
    · subst hq; exact h2 (h.inj m k q h1 hL)
  · intro q hq
    rw [hsz]
    rcases hq with hq | hq
    · exact h.imm q hq
    · subst hq; exact h.lt hL
  · intro q hq
    rcases hq with hq | hq
    · exact h.iN q hq
    · subst hq; exact .inr (h.sep k q hL).2
  · intro q hq hc
    refine (hT q (Nat.lt_of_lt_of_le hq h.size) fun e => ?_).trans (h.fr q hq hc)
    subst e
    rcases (h.sep k q hL).2 with h1 | h1
    · exact hc h1
    · omega

theorem l_frz {s d el : TypeId} {x : Operand} {x' : Opd} (hx : opdOf x = some x') (hs : P.underlying s = some (.slice el)) (hd : s = d) (hu : P.underlying el = some (.int .u8)) (hr : aop (.frz x') e e0 H = some r) (hsc : r.sc) (h : Sat X R w I H)
    (he : ∀ x z, opdOf x = some z → z ∈ (IOp.frz x').opds → CRel R w I (e z) (a.eval x)) : Loud P ⟨dst, .convert s d x, ty, pos, after, guard⟩ a X R w I H (aTouch (.frz x') e) r := by
  subst hd
  have h1 := he x x' hx (by simp [IOp.opds])
  simp only [aop] at hr
  split at hr
  · rename_i k z n hxe
    split at hr
    · rename_i T z' n' f hk
      split at hr
      · rename_i hz
        subst hz
        cases hr
        obtain ⟨hnn, hn0⟩ : n ≤ n' ∧ 0 < n := hsc
        rw [hxe] at h1; unfold CRel at h1
        rcases h1 with ⟨_, h0, _⟩ | ⟨b, c, hR, hnc, hv⟩
        · omega
        · obtain ⟨hz0, ho⟩ := h.obj k _ hk
          rcases ho with ⟨hR', _⟩ | ⟨b', c', vs, hR', hg, hvs, hkc, hcm, hcell⟩
          · rw [hR] at hR'; cases hR'
          · rw [hR] at hR'; cases hR'
            obtain ⟨hf1, hf2, hf3⟩ := freeze_heap hg
            obtain ⟨hsat, hext⟩ := h.frozen (w' := w.freeze ⟨b, vs.size, none⟩ 1) hR hk rfl (fun q _ hq => hf2 q hq) (by simp [World.freeze]) (by simp [World.freeze]) (by simp [World.freeze]) hf3
            refine ⟨a.eval x, _, R, _, .inl ?_, hsat, ?_, hext, fun q k2 hq hnt => hf2 k2 fun e2 => ?_⟩
            · have hsh : w.shape? b = some (T, vs.size) := by simp [World.shape?, hg]
              rw [hv]
              simp [execOp, hv, convert, run_underlying hs, run_underlying hu, markStringish, hsh]
            · unfold CRel
              refine ⟨_, c, hv, hnc, by unfold maxLen at hcm; omega, fun _ => ⟨b, 0, rfl, .inr rfl, fun i j hi hj => ?_⟩⟩
              obtain ⟨u, hu, hr⟩ := hcell i j (by omega) hj
              refine ⟨u, ?_, hr.mono hext⟩
              rw [Nat.zero_add, cell_of_block hf1]; exact hu
            · subst e2
              exact hnt (by rw [h.inj q k k2 hq ⟨c, _, hR, hk, rfl⟩]; simp [aTouch, hxe])
      · cases hr
    · cases hr
  · cases hr

/-- An operation that writes or makes memory (no call). -/
def IOp.loud : IOp → Bool
  | .alloc .. | .box .. | .bslice .. | .store .. | .append .. | .frz .. | .rngS .. | .nextS .. => true
  | _ => false

theorem loud_sound {o : Oper} {op : IOp} (hc : cOp P o = some op) (hq : op.loud = true) (hr : aop op e e0 H = some r) (hsc : r.sc) (h : Sat X R w I H)
    (he : ∀ x z, opdOf x = some z → z ∈ op.opds → CRel R w I (e z) (a.eval x)) : Loud P o a X R w I H (aTouch op e) r := by
  obtain ⟨dst, op', ty, pos, after, guard⟩ := o
  have none_ : ∀ {op : IOp}, Loud P ⟨dst, op', ty, pos, after, guard⟩ a X R w I H [] r → aTouch op e = [] → Loud P ⟨dst, op', ty, pos, after, guard⟩ a X R w I H (aTouch op e) r := by
    intro op h1 h2; rw [h2]; exact h1
  cases op' <;> simp only [cOp] at hc
  case move x => obtain ⟨y, hy, rfl⟩ := Option.map_eq_some_iff.1 hc; simp [IOp.loud] at hq
  case assign x => obtain ⟨y, hy, rfl⟩ := Option.map_eq_some_iff.1 hc; simp [IOp.loud] at hq
  case pick c x y =>
    split at hc
    · cases hc; simp [IOp.loud] at hq
    · cases hc
  case alloc t =>
    obtain ⟨z, hz, rfl⟩ := Option.map_eq_some_iff.1 hc
    exact none_ (l_alloc hz hr h) rfl
  case box t x =>
    obtain ⟨y, hy, rfl⟩ := Option.map_eq_some_iff.1 hc
    exact none_ (l_box hy hr h he) rfl
  case build t parts =>
    unfold cBuild at hc
    split at hc
    · split at hc
      · obtain ⟨y, hy, rfl⟩ := Option.map_eq_some_iff.1 hc; simp [IOp.loud] at hq
      · cases hc
    · cases hc
  case buildSlice t len parts =>
    have ht : aTouch op e = [] := by
      unfold cBslice at hc
      split at hc
      · split at hc
        · cases hc; rfl
        · cases hc
      · cases hc
    exact none_ (l_bslice hc hr hsc h he) ht
  case load t x =>
    split at hc
    · cases hc; simp [IOp.loud] at hq
    · cases hc
  case store t x y =>
    split at hc
    · cases hc; exact l_store (by assumption) (by assumption) (by assumption) hr hsc h he
    · cases hc
  case nilCheck x => obtain ⟨y, hy, rfl⟩ := Option.map_eq_some_iff.1 hc; simp [IOp.loud] at hq
  case binOp bop t x y yt =>
    unfold cBin at hc
    repeat' split at hc
    all_goals first | (cases hc; done) | (cases hc; simp [IOp.loud] at hq)
  case unOp uop t x =>
    split at hc
    · obtain ⟨y, hy, rfl⟩ := Option.map_eq_some_iff.1 hc; simp [IOp.loud] at hq
    · cases hc
  case convert s d x =>
    unfold cConv at hc
    split at hc
    · split at hc
      · cases hc; simp [IOp.loud] at hq
      · split at hc
        · cases hc; simp [IOp.loud] at hq
        · cases hc
      · split at hc
        · rename_i hcond
          obtain ⟨hsd, hu8⟩ := hcond
          cases hc
          subst hsd
          rename_i hd2
          exact l_frz (by assumption) hd2 rfl (isU8_eq hu8) hr hsc h he
        · cases hc
      · cases hc
    · cases hc
  case slice t x lo hi mx =>
    unfold cSlice at hc
    split at hc
    · cases hc; simp [IOp.loud] at hq
    · cases hc
  case field t x f =>
    split at hc
    · obtain ⟨s, hs, rfl⟩ := Option.map_eq_some_iff.1 hc; simp [IOp.loud] at hq
    · cases hc
  case fieldAddr t x f =>
    repeat' split at hc
    all_goals first | (cases hc; done) | (cases hc; simp [IOp.loud] at hq)
  case indexAddr t x i =>
    split at hc
    · cases hc; simp [IOp.loud] at hq
    · cases hc
  case extract x i => obtain ⟨y, hy, rfl⟩ := Option.map_eq_some_iff.1 hc; simp [IOp.loud] at hq
  case range t x =>
    split at hc
    · cases hc; exact none_ (l_rngS (by assumption) (by assumption) hr h he) rfl
    · cases hc
  case next x s =>
    split at hc
    · cases hc; exact l_nextS (by assumption) hr hsc h he
    · cases hc
  case makeFunc fn first caps =>
    unfold cMkf at hc
    split at hc
    · split at hc
      · obtain ⟨s, hs, rfl⟩ := Option.map_eq_some_iff.1 hc; simp [IOp.loud] at hq
      · cases hc
    · cases hc
  case call c =>
    obtain ⟨callee, args, tys⟩ := c
    unfold cCall at hc
    split at hc
    · rename_i os hos
      have hos' := allS_eq hos
      have two : ∀ {z z' : Opd}, os = [z, z'] → ∃ x x', args = #[x, x'] ∧ opdOf x = some z ∧ opdOf x' = some z' := by
        intro z z' hz
        subst hz
        have hl : args.toList.length = 2 := by simpa using congrArg List.length hos'
        obtain ⟨x, x', hx⟩ : ∃ x x', args.toList = [x, x'] := by
          match hargs : args.toList, hl with
          | [x, x'], _ => exact ⟨x, x', rfl⟩
        rw [hx] at hos'
        refine ⟨x, x', ?_, by simpa using hos'⟩
        apply Array.ext'; simpa using hx
      cases callee with
      | builtin b =>
        simp only at hc
        unfold cBuiltin at hc
        split at hc
        · split at hc
          · rename_i el s bb z hes hz
            split at hc
            · rename_i hcond
              obtain ⟨hty, hzl⟩ := hcond
              cases hc
              obtain ⟨x, y, rfl, hx, hy⟩ := two rfl
              rw [hes] at hz
              simp only [Option.getD_some] at hz
              exact l_append rfl hty hes hz hzl hx hy hr hsc h he
            · cases hc
          · cases hc
        · split at hc
          · split at hc
            · cases hc
            · cases hc; simp [IOp.loud] at hq
          · split at hc
            · cases hc
            · cases hc; simp [IOp.loud] at hq
          · cases hc
        · cases hc; simp [IOp.loud] at hq
        · cases hc; simp [IOp.loud] at hq
        · cases hc
      | value g =>
        cases g with
        | func f => simp only at hc; split at hc <;> cases hc; simp [IOp.loud] at hq
        | tmp t => obtain ⟨y, hy, rfl⟩ := Option.map_eq_some_iff.1 hc; simp [IOp.loud] at hq
        | const t => obtain ⟨y, hy, rfl⟩ := Option.map_eq_some_iff.1 hc; simp [IOp.loud] at hq
        | global t => obtain ⟨y, hy, rfl⟩ := Option.map_eq_some_iff.1 hc; simp [IOp.loud] at hq
      | invoke r m => simp at hc
    · cases hc
  all_goals (cases hc)
end
end Go.AM
