/-
  Regions that draw their order: the plan of a region is what the interpreter's walk shows.
-/
import Derived.Test.YtjioijajmkdefaaGreatDoorBE
namespace Go.B
open Go

theorem chained_spec {ms : List Nat} : ∀ {ch : List Nat}, chained ms ch = true → ∀ k c d, ch[k]? = some c → ch[k + 1]? = some d → hasBit (ms.getD d 0) c = true
  | [], _, k, c, d, h, _ => by simp at h
  | [x], _, k, c, d, _, h => by simp at h
  | x :: y :: r, hc, k, c, d, h, h' => by
    simp only [chained, Bool.and_eq_true] at hc
    cases k with
    | zero => simp at h h'; rw [← h, ← h']; exact hc.1
    | succ k => exact chained_spec hc.2 k c d (by simpa using h) (by simpa using h')

theorem steady_spec {E : Env} {ms ch : List Nat} {r : Rd} : ∀ {ss : List St} {s0 : Nat}, E.steady ms ch r s0 ss = true → ∀ k σ, ss[k]? = some σ → may ms r.i (s0 + k) ch = true → s0 + k ≠ r.seg → ∃ v σ', E.op (r.fr.ev E.base) σ r.o = some (v, σ') ∧ v = r.v
  | [], _, _, k, σ, h, _, _ => by simp at h
  | x :: ss, s0, hs, k, σ, h, hm, hne => by
    simp only [Env.steady, Bool.and_eq_true] at hs
    cases k with
    | zero =>
      simp at h
      subst h
      have h1 := hs.1
      simp only [Nat.add_zero] at hm hne
      rw [hm, nbeq] at h1
      simp only [hne, decide_false, Bool.not_true, Bool.false_or] at h1
      split at h1
      · rename_i v σ' hop; exact ⟨v, σ', hop, vbeq'_eq h1⟩
      · cases h1
    | succ k =>
      refine steady_spec hs.2 k σ (by simpa using h) ?_ ?_
      · have : s0 + 1 + k = s0 + (k + 1) := by omega
        rw [this]; exact hm
      · omega

theorem pair_lt {l : List Nat} (h : l.Pairwise (· < ·)) {i j c d : Nat} (hij : i < j) (h1 : l[i]? = some c) (h2 : l[j]? = some d) : c < d := by
  obtain ⟨a, rfl⟩ := List.getElem?_eq_some_iff.1 h1
  obtain ⟨b, rfl⟩ := List.getElem?_eq_some_iff.1 h2
  exact List.pairwise_iff_getElem.1 h i j a b hij

/-- Between two others nothing is turned. -/
theorem flatAt {ops : Array Oper} {frs : Nat → Fr} {sgs : Nat → St} (hq : ∀ j, j < ops.size → ¬ isC ops frs j → sgs (j + 1) = sgs j) (j : Nat) : ∀ d, j + d ≤ ops.size → (∀ k, j ≤ k → k < j + d → ¬ isC ops frs k) → sgs (j + d) = sgs j
  | 0, _, _ => rfl
  | d + 1, h, hn => by
    have := flatAt hq j d (by omega) fun k a b => hn k a (by omega)
    rw [← this]
    exact hq (j + d) (by omega) (hn (j + d) (by omega) (by omega))

theorem flatTo {ops : Array Oper} {frs : Nat → Fr} {sgs : Nat → St} {ch : List Nat} (hq : ∀ j, j < ops.size → ¬ isC ops frs j → sgs (j + 1) = sgs j) (hA : ∀ j, isC ops frs j → j ∈ ch) (hs : ch.Pairwise (· < ·)) (hc : ∀ c ∈ ch, c < ops.size)
    {s j : Nat} (hj : j ≤ ops.size) (hb : Below' ch s j) : sgs (ch.getD s ops.size) = sgs j := by
  have hle : j ≤ ch.getD s ops.size ∧ ch.getD s ops.size ≤ ops.size := by
    rw [List.getD_eq_getElem?_getD]
    cases h : ch[s]? with
    | none => exact ⟨hj, Nat.le_refl _⟩
    | some c => exact ⟨hb.2 s c (Nat.le_refl _) h, Nat.le_of_lt (hc c (List.mem_of_getElem? h))⟩
  obtain ⟨d, hd⟩ : ∃ d, ch.getD s ops.size = j + d := ⟨ch.getD s ops.size - j, by omega⟩
  rw [hd]
  refine flatAt hq j d (by omega) fun k a b hk => ?_
  obtain ⟨m, hm⟩ := List.getElem?_of_mem (hA k hk)
  rcases Nat.lt_or_ge m s with h | h
  · have := hb.1 m k h hm; omega
  · rw [← hd, List.getD_eq_getElem?_getD] at b
    cases e : ch[s]? with
    | none =>
      have := List.getElem?_eq_none_iff.1 e
      have : ch[m]? = none := List.getElem?_eq_none (by omega)
      rw [this] at hm; cases hm
    | some c =>
      rw [e] at b
      simp only [Option.getD_some] at b
      rcases Nat.eq_or_lt_of_le h with h | h
      · subst h; rw [e] at hm; cases hm; omega
      · have := pair_lt hs h e hm; omega

theorem drawn_plan {E : Env} {call : CallF} {ops : Array Oper} {fr0 fr2 : Fr} {σ0 σ2 : St} (hn : fr0.n < 4294967296) (hD : Drawable ops (masks [] ops.toList)) (h : E.drawn call ops fr0 σ0 = some (fr2, σ2)) :
    ∃ σ1 val frs sgs idf ch, Plan E call ops fr0 σ0 σ1 val frs sgs idf ch ∧ sgs ops.size = σ2 ∧ fr2.n = fr0.n ∧ fr2.df = fr0.df ∧ ∀ t, fr2.get t = rv val fr0 t (lastW (wr ops t) ops.size) := by
  unfold Env.drawn at h
  split at h <;> try (simp at h; done)
  rename_i fr1 σ1 hal
  split at h <;> try (simp at h; done)
  rename_i fr2' σ2' rds ch ss htx
  obtain ⟨frA, sgA, ptr, a1, a2, a3, a4, hA⟩ := allocs_spec (ops := ops) ops.toList 0 fr0 σ0 fr1 σ1 (fun k => by simp) hal
  obtain ⟨_, frs, sgs, vs, t1, t2, t3, t4, hT⟩ := text_spec (ops := ops) ops.toList 0 fr1 σ1 [] [] [] _ _ _ _ _ (fun k => by simp) (by simp) htx
  simp only [Nat.zero_add, Array.length_toList] at a3 a4 hA t3 t4 hT
  have hres : fr2' = fr2 ∧ σ2' = σ2 ∧ (ch = [] ∨ chained (masks [] ops.toList) ch = true ∧ rds.all (fun r => E.steady (masks [] ops.toList) ch r 0 ss) = true) := by
    split at h
    · simp only [Option.some.injEq, Prod.mk.injEq] at h; exact ⟨h.1, h.2, .inl rfl⟩
    · simp only at h
      cases hc : chained (masks [] ops.toList) ch && rds.all (fun r => E.steady (masks [] ops.toList) ch r 0 ss)
      · rw [hc, cond_false] at h; cases h
      · rw [hc, cond_true] at h
        simp only [Option.some.injEq, Prod.mk.injEq] at h
        exact ⟨h.1, h.2, .inr ((Bool.and_eq_true _ _).mp hc)⟩
  obtain ⟨rfl, rfl, hch⟩ := hres
  obtain ⟨ch', g1, g2, g3, g4⟩ := hT.grow
  simp only [List.nil_append] at g1 g2
  subst g1
  have hq : ∀ j, j < ops.size → ¬ isC ops frs j → sgs (j + 1) = sgs j := fun j hj hnC => by
    have ho : ops[j]? = some ops[j] := Array.getElem?_eq_getElem hj
    obtain ⟨s1, s2, s3⟩ := hT.step j _ (Nat.zero_le _) hj ho
    by_cases h2 : cls (ops[j]).op = 2
    · exact (s1 h2).2
    · rcases Bool.eq_false_or_eq_true (wants ops (frs j) ops[j]) with hw | hw
      · have hc3 : cls (ops[j]).op ≠ 3 := fun e => hnC ⟨_, ho, e, hw⟩
        have := cls_le (ops[j]).op
        exact any_same (by omega) (s2 h2 hw).1
      · exact (s3 h2 hw).2.1
  have hAll : ∀ j, isC ops frs j → j ∈ ch := fun j hj => by
    have hlt : j < ops.size := by
      obtain ⟨o, ho, _⟩ := hj
      exact (Array.getElem?_eq_some_iff.1 ho).1
    exact hT.mem j (Nat.zero_le _) hlt hj
  have hcs : ∀ c ∈ ch, c < ops.size := fun c hc => (g3 c hc).2.1
  have hA0 := hA.steps 0
  simp only [Nat.zero_add, a1, a2] at hA0
  have hAn := hA0 ops.size (Nat.le_refl _)
  rw [a3, a4] at hAn
  -- the frames' sizes
  have hsz : ∀ j, j ≤ ops.size → (frs j).n = fr0.n := by
    intro j
    induction j with
    | zero => intro _; rw [t1]; exact hAn.2.2.2
    | succ j ih =>
      intro hj
      have hlt : j < ops.size := by omega
      have ho : ops[j]? = some ops[j] := Array.getElem?_eq_getElem hlt
      obtain ⟨s1, s2, s3⟩ := hT.step j _ (Nat.zero_le _) hlt ho
      rw [← ih (by omega)]
      by_cases h2 : cls (ops[j]).op = 2
      · rw [(s1 h2).1]
      · rcases Bool.eq_false_or_eq_true (wants ops (frs j) ops[j]) with hw | hw
        · exact Fr.put_n (s2 h2 hw).2
        · exact Fr.put_n (s3 h2 hw).1
  have hdf : ∀ j, j ≤ ops.size → (frs j).df = fr0.df := by
    intro j
    induction j with
    | zero => intro _; rw [t1, ← a3, hA.df _ (Nat.le_refl _), a1]
    | succ j ih =>
      intro hj
      have hlt : j < ops.size := by omega
      have ho : ops[j]? = some ops[j] := Array.getElem?_eq_getElem hlt
      obtain ⟨s1, s2, s3⟩ := hT.step j _ (Nat.zero_le _) hlt ho
      rw [← ih (by omega)]
      by_cases h2 : cls (ops[j]).op = 2
      · rw [(s1 h2).1]
      · rcases Bool.eq_false_or_eq_true (wants ops (frs j) ops[j]) with hw | hw
        · exact Fr.put_df (s2 h2 hw).2
        · exact Fr.put_df (s3 h2 hw).1
  have hbit0 : ∀ i j (o x : Oper), ops[i]? = some o → ops[j]? = some x → j < i → cls o.op = 2 → clash ops x o = true → False := fun i j o x ho hx hji hc hcl => by
    have := hD.apart i j o x ho hx hji hcl
    rw [(hD.var i o ho hc).2, hasBit_zero] at this
    cases this
  have hget1 : ∀ t, fr1.get t = rv ptr fr0 t (lastW (fun k => isA ops k && wr ops t k) ops.size) := fun t => by
    have := hA.get (by rw [a1]; exact hn) t ops.size (Nat.le_refl _)
    rw [a3, a1] at this; exact this
  -- who put a temporary ahead of an operation
  let val : Nat → Value := fun k => bif isA ops k then ptr k else vs k
  have hB : ∀ t j, j ≤ ops.size → (frs j).get t = rv val fr1 t (lastW (wr ops t) j) := by
    intro t j
    induction j with
    | zero => intro _; rw [t1]; rfl
    | succ j ih =>
      intro hj
      have ih := ih (by omega)
      have hlt : j < ops.size := by omega
      have ho : ops[j]? = some ops[j] := Array.getElem?_eq_getElem hlt
      obtain ⟨s1, s2, s3⟩ := hT.step j _ (Nat.zero_le _) hlt ho
      have hfn : (frs j).n < 4294967296 := by rw [hsz j (by omega)]; exact hn
      rw [lastW]
      by_cases h2 : cls (ops[j]).op = 2
      · rw [(s1 h2).1]
        cases hw : wr ops t j
        · rw [cond_false]; exact ih
        · rw [cond_true]
          obtain ⟨o', x1, x2⟩ := wr_iff.1 hw
          rw [ho] at x1; cases x1
          have hnone : lastW (wr ops t) j = none := by
            cases hl : lastW (wr ops t) j with
            | none => rfl
            | some k =>
              obtain ⟨k1, k2⟩ := lastW_some hl
              obtain ⟨x, y1, y2⟩ := wr_iff.1 k2
              exact (hbit0 j k _ x ho y1 k1 h2 (clash_left y2 (named_dst x2))).elim
          rw [ih, hnone]
          show fr1.get t = val j
          have hval : val j = ptr j := by
            show (bif isA ops j then ptr j else vs j) = _
            rw [(isA_iff ho).2 h2]; rfl
          rw [hval, hget1, lastW_eq hlt (by rw [(isA_iff ho).2 h2, hw]; rfl) fun k a b => ?_]
          · rfl
          · cases hk : isA ops k && wr ops t k
            · rfl
            · obtain ⟨k1, k2⟩ := (Bool.and_eq_true _ _).mp hk
              obtain ⟨x, y1, y2⟩ := wr_iff.1 k2
              exact (hbit0 k j x _ y1 ho a ((isA_iff y1).1 k1) (clash_left x2 (named_dst y2))).elim
      · have hval : val j = vs j := by
          show (bif isA ops j then ptr j else vs j) = _
          have : isA ops j = false := by
            cases hA' : isA ops j
            · rfl
            · exact absurd ((isA_iff ho).1 hA') h2
          rw [this]; rfl
        have hput : (frs j).put (ops[j]).dst (vs j) = some (frs (j + 1)) := by
          rcases Bool.eq_false_or_eq_true (wants ops (frs j) ops[j]) with hw | hw
          · exact (s2 h2 hw).2
          · rw [(s3 h2 hw).2.2]; exact (s3 h2 hw).1
        cases hd : (ops[j]).dst with
        | none =>
          have hwf : wr ops t j = false := by
            cases hw : wr ops t j
            · rfl
            · obtain ⟨o', x1, x2⟩ := wr_iff.1 hw
              rw [ho] at x1; cases x1; rw [hd] at x2; cases x2
          rw [hd] at hput
          simp only [Fr.put, Option.some.injEq] at hput
          rw [hwf, cond_false, ← hput]; exact ih
        | some d =>
          rw [hd] at hput
          rw [Fr.get_put hfn hput]
          by_cases e : t = d
          · subst e
            rw [if_pos rfl, wr_iff.2 ⟨_, ho, hd⟩, cond_true]
            exact hval.symm
          · have hwf : wr ops t j = false := by
              cases hw : wr ops t j
              · rfl
              · obtain ⟨o', x1, x2⟩ := wr_iff.1 hw
                rw [ho] at x1; cases x1; rw [hd] at x2; cases x2; exact absurd rfl e
            rw [if_neg e, hwf, cond_false]; exact ih
  have hvarA : ∀ j o, ops[j]? = some o → cls o.op = 2 → j < ops.size ∧ o.guard = none ∧ ∃ t z, o.op = .alloc t ∧ ptr j = .pointer (some ⟨(sgA j).nx, 0, none⟩) ∧ (E.P.info? t).bind (·.zero) = some z ∧ flats z.cells.toList = true ∧ 0 ≤ (sgA j).nx ∧ 0 ≤ z.cells.toList.length ∧ sgA (j + 1) = (sgA j).new (blkOf z.cells.toList (unit E.P t)) := fun j o ho hc => by
    have hlt : j < ops.size := (Array.getElem?_eq_some_iff.1 ho).1
    obtain ⟨h1, _⟩ := hA.yes j o (Nat.zero_le _) hlt ho hc
    obtain ⟨t, ht⟩ := cls_two hc
    obtain ⟨z, z1, z2, z3, z4, z5⟩ := alloc_says ht h1
    obtain ⟨k1, k2⟩ := St.ok_iff z3
    exact ⟨hlt, (hD.var j o ho hc).1, t, z, ht, z4, z1, z2, k1, k2, z5⟩
  refine ⟨σ1, val, frs, sgs, fun j => (sgA j).nx, ch, ?_, t4, ?_, by rw [← t3]; exact hdf _ (Nat.le_refl _), ?_⟩
  · refine ⟨hn, hD.edge, fun i j o x ho hx hji hcl => hD.apart i j o x ho hx hji hcl, ?_, ?_, hAn.1, hAn.2.2.1, hAn.2.1, ?_, ?_, ?_, ?_, t2, hq, fun c hc => ⟨hcs c hc, (g3 c hc).2.2⟩, hAll, g4, ?_, ?_⟩
    · intro j o t ho hl
      have hlt : j < ops.size := (Array.getElem?_eq_some_iff.1 ho).1
      rw [hB t j (by omega)]
      cases hlw : lastW (wr ops t) j with
      | some k => rfl
      | none =>
        show fr1.get t = fr0.get t
        rw [hget1]
        cases hl2 : lastW (fun k => isA ops k && wr ops t k) ops.size with
        | none => rfl
        | some k =>
          obtain ⟨k1, k2⟩ := lastW_some hl2
          obtain ⟨k2, k3⟩ := (Bool.and_eq_true _ _).mp k2
          obtain ⟨x, y1, y2⟩ := wr_iff.1 k3
          have hkA := (isA_iff y1).1 k2
          rcases Nat.lt_trichotomy k j with hk | hk | hk
          · have := lastW_none hlw k hk
            rw [this] at k3; cases k3
          · subst hk
            rw [ho] at y1; cases y1
            obtain ⟨_, hg, t', z, ht', _⟩ := hvarA k o ho hkA
            simp [Oper.looksAt, ht', Op.operands, hg] at hl
          · exact (hbit0 k j x o y1 ho hk hkA (clash_right y2 (named_look hl))).elim
    · intro j o d ho hd
      have hlt : j < ops.size := (Array.getElem?_eq_some_iff.1 ho).1
      by_cases h2 : cls o.op = 2
      · obtain ⟨_, hp⟩ := hA.yes j o (Nat.zero_le _) hlt ho h2
        rw [hd] at hp
        have := Fr.put_lt hp
        rw [(hA0 j (by omega)).2.2.2] at this
        exact this
      · obtain ⟨s1, s2, s3⟩ := hT.step j o (Nat.zero_le _) hlt ho
        rw [← hsz j (by omega)]
        rcases Bool.eq_false_or_eq_true (wants ops (frs j) o) with hw | hw
        · have := (s2 h2 hw).2; rw [hd] at this; exact Fr.put_lt this
        · have := (s3 h2 hw).1; rw [hd] at this; exact Fr.put_lt this
    · intro j o ho hc
      obtain ⟨hlt, hg, t, z, z1, z2, z3, z4, z5, z6, z7⟩ := hvarA j o ho hc
      refine ⟨hg, t, z, z1, ?_, (hA0 j (by omega)).1, ?_, z3, z4, z6, ?_⟩
      · show (bif isA ops j then ptr j else vs j) = _
        rw [(isA_iff ho).2 hc]; exact z2
      · have := (hA.steps (j + 1) (ops.size - (j + 1)) (by omega)).1
        rw [show j + 1 + (ops.size - (j + 1)) = ops.size by omega, a4, z7] at this
        simp [St.new] at this
        exact this
      · have := (hA.steps (j + 1) (ops.size - (j + 1)) (by omega)).2.1 (sgA j).nx (by rw [z7]; simp [St.new])
        rw [show j + 1 + (ops.size - (j + 1)) = ops.size by omega, a4, z7] at this
        rw [this, St.blk_new, if_pos rfl]
    · have key : ∀ i j o x, ops[i]? = some o → ops[j]? = some x → cls o.op = 2 → cls x.op = 2 → i < j → (sgA i).nx ≠ (sgA j).nx := fun i j o x ho hx hc _ hij => by
        obtain ⟨hlt, hg, t, z, z1, z2, z3, z4, z5, z6, z7⟩ := hvarA i o ho hc
        have hlt2 : j < ops.size := (Array.getElem?_eq_some_iff.1 hx).1
        have := (hA.steps (i + 1) (j - (i + 1)) (by omega)).1
        rw [show i + 1 + (j - (i + 1)) = j by omega, z7] at this
        simp [St.new] at this
        omega
      intro i j o x ho hx hc hc' e
      rcases Nat.lt_trichotomy i j with h | h | h
      · exact absurd e (key i j o x ho hx hc hc' h)
      · exact h
      · exact absurd e.symm (key j i x o hx ho hc' hc h)
    · intro j o ho hc hw
      have hlt : j < ops.size := (Array.getElem?_eq_some_iff.1 ho).1
      have : val j = vs j := by
        show (bif isA ops j then ptr j else vs j) = _
        have : isA ops j = false := by
          cases hA' : isA ops j
          · rfl
          · exact absurd ((isA_iff ho).1 hA') hc
        rw [this]; rfl
      rw [this]
      exact ((hT.step j o (Nat.zero_le _) hlt ho).2.1 hc hw).1
    · intro j o ho hc hw
      have hlt : j < ops.size := (Array.getElem?_eq_some_iff.1 ho).1
      show (bif isA ops j then ptr j else vs j) = _
      have : isA ops j = false := by
        cases hA' : isA ops j
        · rfl
        · exact absurd ((isA_iff ho).1 hA') hc
      rw [this]
      exact ((hT.step j o (Nat.zero_le _) hlt ho).2.2 hc hw).2.2
    · intro k c d h1 h2
      rcases hch with rfl | ⟨hc, _⟩
      · simp at h1
      · exact chained_spec hc k c d h1 h2
    · intro j o s ho hc hw hs hmay
      have hlt : j < ops.size := (Array.getElem?_eq_some_iff.1 ho).1
      have hval : val j = vs j := by
        show (bif isA ops j then ptr j else vs j) = _
        have : isA ops j = false := by
          cases hA' : isA ops j
          · rfl
          · have := (isA_iff ho).1 hA'; omega
        rw [this]; rfl
      have hany := ((hT.step j o (Nat.zero_le _) hlt ho).2.1 (by omega) hw).1
      rw [any_op (by omega)] at hany
      have hany := retd_ret hany
      have hsj := op_cls1 hc hany
      rw [hsj] at hany
      rw [hval]
      obtain ⟨r, r1, r2, r3, r4, r5, r6⟩ := hT.read j o (Nat.zero_le _) hlt ho hc hw
      by_cases hseg : s = r.seg
      · rw [← hseg] at r6
        rw [flatTo hq hAll g4 hcs (by omega) r6]
        exact hany
      · rcases hch with rfl | ⟨_, hst⟩
        · rw [flatTo hq hAll g4 hcs (by omega) (j := j) ⟨fun k c _ hc => by simp at hc, fun k c _ hc => by simp at hc⟩]
          exact hany
        · have hst := List.all_eq_true.1 hst r r1
          have hget : ss[s]? = some (sgs (ch.getD s ops.size)) := by
            rw [g2, List.getD_eq_getElem?_getD]
            rcases Nat.lt_or_ge s ch.length with hl | hl
            · rw [List.getElem?_append_left (by simpa using hl), List.getElem?_map, List.getElem?_eq_getElem hl]; rfl
            · have : s = ch.length := by omega
              subst this
              simp
          obtain ⟨v, σ', x1, x2⟩ := steady_spec hst s _ hget (by rw [Nat.zero_add, r2]; exact hmay) (by rw [Nat.zero_add]; exact hseg)
          rw [r3, r4] at x1
          rw [x2, r5] at x1
          rw [x1, op_cls1 hc x1]
  · rw [← t3]; exact hsz _ (Nat.le_refl _)
  · intro t
    rw [← t3, hB t _ (Nat.le_refl _)]
    cases hlw : lastW (wr ops t) ops.size with
    | some k => rfl
    | none =>
      show fr1.get t = fr0.get t
      rw [hget1]
      cases hl2 : lastW (fun k => isA ops k && wr ops t k) ops.size with
      | none => rfl
      | some k =>
        obtain ⟨k1, k2⟩ := lastW_some hl2
        have := lastW_none hlw k k1
        rw [this] at k2; simp at k2
end Go.B
