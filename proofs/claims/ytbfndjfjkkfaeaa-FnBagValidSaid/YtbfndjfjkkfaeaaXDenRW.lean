/- Trees of one's own: calls. -/
import Derived.Test.YtbfndjfjkkfaeaaXDenRY
set_option linter.unusedVariables false
set_option linter.unusedSimpArgs false
namespace Go.Den
section
variable {P : Program} {tab : Tab} {G : Gam} {w0 : Base} {lim0 : Lim} {rb : Option Nat} {n : Nat}
variable {st st' : St} {a : Act} {w w' : World} {lim lim' : Lim} {β : Mp} {o : Oper} {c : Comp}

open Classical in
/-- while a call runs, what stands in trees may be seen -/
noncomputable def limX (st : St) (β : Mp) (lim : Lim) : Lim := fun g => if isTree st β g then none else lim g
theorem ext_limX : Ext w lim w (limX st β lim) :=
  ⟨Nat.le_refl _, fun _ _ _ _ _ h => h, fun b m _ hu k hk => by
    unfold limX at hk
    split at hk
    · cases hk
    · exact hu k hk⟩
theorem argX_rep (h : Sim w0 lim0 rb n st a w lim β) (x : Operand) : ERep st w (limX st β lim) β rb (argX st (st.ent x).av) (a.eval x) := by
  have hm : ∀ {av : AV}, ERep st w lim β rb av (a.eval x) → ERep st w (limX st β lim) β rb av (a.eval x) := fun hv =>
    hv.mono ext_limX (fun b d hb => ⟨rfl, d, hb, rfl⟩) (fun d hd => ⟨d, hd, rfl⟩) (fun r d hr => ⟨d, hr, rfl, rfl⟩) (fun b t o hb => ⟨⟨o, hb⟩, rfl⟩)
  have hx := h.ent x
  cases hav : (st.ent x).av with
  | xf r p =>
    simp only [argX]
    cases hy : st.atX r p with
    | none => trivial
    | some y =>
      obtain ⟨d, hio, hv⟩ := xf_val h hav hy
      obtain ⟨d2, Bu, m1, m2, m3, m4, m5, m6, m7, m8⟩ := h.atX hy
      rw [hio] at m1; injection m1 with m1; subst m1
      exact ⟨_, m7.crep m5 (fun g hg => by unfold limX; rw [if_pos (.inl ⟨r, d, hio, m6 g hg⟩)]), hv⟩
  | _ => rw [hav] at hx; exact hm hx

theorem CRep.relim {l1 l2 : Lim} : ∀ {t : Ty} {x : t.val} {cs : List Value}, CRep w l1 t x cs → flatT t = true →
    (∀ p ∈ slicePaths t, ∀ v, cs[offs t p]? = some v → ∀ g, blockOf v = some g → l2 g = l1 g) → CRep w l2 t x cs := by
  intro t
  induction t with
  | int k => intro x cs h _ _; exact h
  | bool => intro x cs h _ _; exact h
  | str => intro x cs h _ _; exact h
  | unit => intro x cs h _ _; exact h
  | slice e _ =>
    intro xs cs h hf hl
    obtain ⟨ad, cc, h1, h2, h3⟩ := h
    subst h1
    refine ⟨ad, cc, rfl, h2, ?_⟩
    rcases h3 with h3 | ⟨b, oo, q1, q2, q3, q4⟩
    · exact .inl h3
    · subst q1
      have := hl [] (by simp [slicePaths]) _ (by simp [offs]; rfl) b rfl
      refine .inr ⟨b, oo, rfl, q2, fun m hm => q3 m (by rw [← this]; exact hm), fun i x hx => ?_⟩
      obtain ⟨ds, k1, k2⟩ := q4 i x hx
      exact ⟨ds, (CRep_noSl hf).2 ((CRep_noSl hf).1 k1), k2⟩
  | prod p q ihp ihq =>
    intro x cs h hf hl
    obtain ⟨c1, c2, rfl, h1, h2⟩ := h
    obtain ⟨f1, f2⟩ := flat_prod hf
    have l1' := h1.length
    refine ⟨c1, c2, rfl, ihp h1 f1 (fun r hr v hv g hg => ?_), ?_⟩
    · refine hl (0 :: r) (by simp only [slicePaths]; exact List.mem_append_left _ (List.mem_map.2 ⟨r, hr, rfl⟩)) v ?_ g hg
      simp only [offs]
      rw [List.getElem?_append_left (List.getElem?_eq_some_iff.1 hv).1]; exact hv
    · rcases f2 with ⟨q1, q2, rfl, f2⟩ | rfl
      · refine ihq h2 f2 (fun r hr v hv g hg => ?_)
        cases r with
        | nil => exact absurd rfl ((slicePaths_spec hr).2 rfl)
        | cons i r =>
          refine hl ((i + 1) :: r) (by rw [slicePaths]; exact List.mem_append_right _ (List.mem_map.2 ⟨i :: r, hr, rfl⟩)) v ?_ g hg
          simp only [offs]
          rw [List.getElem?_append_right (by omega), l1', show p.size + offs (.prod q1 q2) (i :: r) - p.size = offs (.prod q1 q2) (i :: r) by omega]; exact hv
      · exact h2
theorem tup_iff : ∀ {t : Ty} {x : t.val} {vs : List Value}, TupRep w lim t x vs ↔ (TupSh t vs ∧ CRep w lim t x (vs.flatMap fun v => v.cells.toList)) := by
  intro t
  induction t with
  | unit => intro x vs; constructor
            · intro h; have h : vs = [] := h; subst h; exact ⟨rfl, rfl⟩
            · intro h; exact h.1
  | prod p q _ ihq =>
    intro x vs
    constructor
    · rintro ⟨v, vs', rfl, ⟨cs, h1, h2⟩, h3⟩
      obtain ⟨k1, k2⟩ := ihq.1 h3
      have hcl : v.cells.toList = cs := by rw [h2, wrapV_cells h1]
      refine ⟨⟨v, vs', cs, rfl, h1.length, h2, hcl, k1⟩, cs, _, ?_, h1, k2⟩
      simp only [List.flatMap_cons]; rw [hcl]
    · rintro ⟨⟨v, vs', cs, rfl, h1, h2, h3, h4⟩, c1, c2, k1, k2, k3⟩
      simp only [List.flatMap_cons] at k1
      rw [h3] at k1
      obtain ⟨e1, e2⟩ := List.append_inj k1 (by rw [h1, k2.length])
      subst e1; subst e2
      exact ⟨v, vs', rfl, ⟨cs, k2, h2⟩, ihq.2 ⟨h4, k3⟩⟩
  | int k => intro x vs; exact ⟨fun h => h.elim, fun h => h.1.elim⟩
  | bool => intro x vs; exact ⟨fun h => h.elim, fun h => h.1.elim⟩
  | str => intro x vs; exact ⟨fun h => h.elim, fun h => h.1.elim⟩
  | slice e => intro x vs; exact ⟨fun h => h.elim, fun h => h.1.elim⟩
theorem allIn_spec : ∀ {ps qs : List (List Nat)}, allIn ps qs = true → ∀ p ∈ ps, p ∈ qs
  | [], _, _, p, hp => by cases hp
  | r :: ps, qs, h, p, hp => by
    simp only [allIn] at h
    cases hr : inPaths r qs with
    | false => rw [hr] at h; cases h
    | true =>
      rw [hr] at h
      rcases List.mem_cons.1 hp with rfl | hp
      · exact inPaths_iff.1 hr
      · exact allIn_spec h p hp

/-- a result of which nobody else sees anything -/
theorem ret_closed {s : Sig} {r : s.rty.val × s.rdty.val} {e : Ending} {l1 : Lim} (hcl : closedS s = true) (h : RetOk w l1 none s r e w') : ∃ v lim', e = .returned v ∧ w.grownBy w' none ∧ (∀ b, b < w.heap.size → lim' b = l1 b) ∧
    ERep st00 w' lim' mp0 none (resAV s.rty s.one r.1) v ∧ flatT (rootOf s.one s.rty r.1).1 = true ∧ CRep w' lim' (rootOf s.one s.rty r.1).1 (rootOf s.one s.rty r.1).2 (flatV v) ∧
    (∀ p ∈ slicePaths (rootOf s.one s.rty r.1).1, ∃ e' x, typeAt (rootOf s.one s.rty r.1).1 p = some (.slice e') ∧ (flatV v)[offs (rootOf s.one s.rty r.1).1 p]? = some x ∧ Tip w' lim' w.heap.size e'.size x) ∧
    (∀ p ∈ slicePaths (rootOf s.one s.rty r.1).1, ∀ q ∈ slicePaths (rootOf s.one s.rty r.1).1, ∀ u z g, (flatV v)[offs (rootOf s.one s.rty r.1).1 p]? = some u → (flatV v)[offs (rootOf s.one s.rty r.1).1 q]? = some z → blockOf u = some g → blockOf z = some g → p = q) ∧
    ((∀ d, rootAV s.one s.rty d = .xf d []) ∧ v = wrapV (rootOf s.one s.rty r.1).1 (flatV v) ∧ resAV s.rty s.one r.1 = .dat (rootOf s.one s.rty r.1).1 (rootOf s.one s.rty r.1).2 ∨
      (∀ d, rootAV s.one s.rty d = .xt d) ∧ (∃ vs, v = .tuple vs.toArray ∧ TupSh (rootOf s.one s.rty r.1).1 vs) ∧ resAV s.rty s.one r.1 = .tup (rootOf s.one s.rty r.1).1 (rootOf s.one s.rty r.1).2) ∧
    (∀ p ∈ resOwn s.one s.own, ∃ e' x, typeAV p (resAV s.rty s.one r.1) = some (.slice e') ∧ partAV v p (resAV s.rty s.one r.1) = some x ∧ Tip w' lim' w.heap.size e'.size x) ∧
    (∀ p ∈ resOwn s.one s.own, ∀ q ∈ resOwn s.one s.own, ∀ x y g, partAV v p (resAV s.rty s.one r.1) = some x → partAV v q (resAV s.rty s.one r.1) = some y → blockOf x = some g → blockOf y = some g → p = q) := by
  obtain ⟨v, lim', rfl, g1, g2, g3, g4, g5, _⟩ := h
  refine ⟨v, lim', rfl, g1, g2, g3, ?_⟩
  unfold closedS at hcl
  cases hfl : flatT s.rty with
  | false => rw [hfl] at hcl; cases hcl
  | true =>
  rw [hfl] at hcl; simp only [cnd_true] at hcl
  cases hal : allIn (slicePaths s.rty) s.own with
  | false => rw [hal] at hcl; cases hcl
  | true =>
  rw [hal] at hcl; simp only [cnd_true] at hcl
  obtain ⟨aty, rdty, usesRd, rty, one, own, opens, muts, fn⟩ := s
  simp only at r g3 g4 g5 hcl hfl hal ⊢
  cases one with
  | true =>
    cases rty with
    | prod p q =>
      cases q with
      | unit =>
        obtain ⟨f1, _⟩ := flat_prod hfl
        have g3' : TRep w' lim' p r.1.1 v := g3
        have hc := g3'.cells
        have hfv := flat_TRep g3'
        have inown : ∀ m ∈ slicePaths p, m ∈ resOwn true own := by
          intro m hm
          have := allIn_spec hal (0 :: m) (by simp only [slicePaths]; exact List.mem_append_left _ (List.mem_map.2 ⟨m, hm, rfl⟩))
          exact List.mem_map.2 ⟨_, this, rfl⟩
        refine ⟨f1, by rw [hfv]; exact hc, fun m hm => g4 m (inown m hm), fun m hm m' hm' u z g => g5 m (inown m hm) m' (inown m' hm') u z g, .inl ⟨fun _ => rfl, ?_, rfl⟩, g4, g5⟩
        obtain ⟨cs, k1, k2⟩ := g3'
        rw [hfv, k2, wrapV_cells k1]
        rfl
      | _ => cases hcl
    | _ => cases hcl
  | false =>
    have hav : resAV rty false r.1 = .tup rty r.1 := by unfold resAV; rfl
    have hro : rootOf false rty r.1 = ⟨rty, r.1⟩ := by unfold rootOf; rfl
    have hra : ∀ d, rootAV false rty d = .xt d := fun d => by unfold rootAV; rfl
    rw [hav] at g3 g4 g5 ⊢
    rw [hro]
    obtain ⟨vs, hv, ht⟩ := g3
    obtain ⟨k1, k2⟩ := tup_iff.1 ht
    have hfv : flatV v = vs.flatMap fun v => v.cells.toList := by rw [hv]; simp [flatV]
    have inown : ∀ m ∈ slicePaths rty, m ∈ resOwn false own := fun m hm => allIn_spec hal m hm
    exact ⟨hfl, by rw [hfv]; exact k2, fun m hm => g4 m (inown m hm), fun m hm m' hm' u z g => g5 m (inown m hm) m' (inown m' hm') u z g, .inr ⟨hra, ⟨vs, hv, k1⟩, rfl⟩, g4, g5⟩

theorem setF_ok : ∀ {t : Ty} {x : t.val} {i : Nat} {d : Dat} (z : d.1.val), getF t x i = some d → ∃ x', setF t x i ⟨d.1, z⟩ = some x' := by
  intro t
  induction t with
  | prod p q _ ihq =>
    intro x i d z h
    cases i with
    | zero => simp only [getF] at h; injection h with h; subst h; exact ⟨(z, x.2), by simp only [setF, cast_self]; rfl⟩
    | succ i =>
      simp only [getF] at h
      obtain ⟨y, hy⟩ := ihq z h
      exact ⟨(x.1, y), by simp only [setF, hy]; rfl⟩
  | _ => intro x i d z h; cases h
theorem setP_ok : ∀ {p : List Nat} {t : Ty} {x : t.val} {y : Dat} (z : y.1.val), getP t x p = some y → ∃ x', setP t x p ⟨y.1, z⟩ = some x'
  | [], t, x, y, z, h => by simp only [getP] at h; injection h with h; subst h; exact ⟨z, by simp [setP, cast_self]⟩
  | i :: p, t, x, y, z, h => by
    simp only [getP] at h
    cases hg : getF t x i with
    | none => rw [hg] at h; cases h
    | some d =>
      rw [hg] at h
      obtain ⟨x1, h1⟩ := setP_ok z h
      obtain ⟨x2, h2⟩ := setF_ok x1 hg
      exact ⟨x2, by simp [setP, hg, h1, h2]⟩
theorem res_noSl {t : Ty} {one : Bool} {x : t.val} {v : Value} {l1 l2 : Lim} (hn : noSl t = true) (h : ERep st00 w l1 mp0 none (resAV t one x) v) : ERep st00 w l2 mp0 none (resAV t one x) v := by
  have key : ERep st00 w l1 mp0 none (.tup t x) v → ERep st00 w l2 mp0 none (.tup t x) v := by
    rintro ⟨vs, hv, ht⟩
    obtain ⟨k1, k2⟩ := tup_iff.1 ht
    exact ⟨vs, hv, tup_iff.2 ⟨k1, (CRep_noSl hn).2 ((CRep_noSl hn).1 k2)⟩⟩
  unfold resAV at h ⊢
  split at h
  · rename_i a x
    have ha : noSl a = true := by
      simp only [noSl] at hn
      cases hq : noSl a with
      | true => rfl
      | false => rw [hq] at hn; cases hn
    obtain ⟨cs, k1, k2⟩ := h
    exact ⟨cs, (CRep_noSl ha).2 ((CRep_noSl ha).1 k1), k2⟩
  · exact key h

theorem ok_callX (hG : GamOk P G) (h : Sim w0 lim0 rb n st a w lim β) (hrb : ∀ k, some k = rb → k < w0.heap.size) (hd : ∀ d, o.dst = some d → d < n) {f : FuncId} {cl : Call} (hop : o.op = .call cl) (hcal : cl.callee = .value (.func f))
    (hc : stCallX G o f cl.args.toList st = some c) (ho : c.out st = some st') : OpOk P w0 lim0 rb n o st' a w := by
  unfold stCallX at hc
  cases hg : G f with
  | none => rw [hg] at hc; cases hc
  | some s =>
    rw [hg] at hc; simp only [] at hc
    have hf := hG f s hg
    have hvals : (cl.args.map a.eval) = (cl.args.toList.map a.eval).toArray := by apply Array.ext'; rw [Array.toList_map]
    have exec : (execOp a.eval o).run P w = .ok (.enter f (cl.args.toList.map a.eval).toArray) w := by
      have e1 : ∀ args, (Deferred.ofValue (.func (.func f) #[] #[]) args) = (pure { target := .fn (.func f) #[], args := args } : Sem Deferred) := by
        intro args; simp [Deferred.ofValue]
      simp only [execOp, hop, resolve, hcal, Act.eval, hvals, e1, Sem.run_bind, Sem.run_pure, Result.andThen_ok, invoke]
      simpa using hf.enters _ w
    split at hc
    · -- a call that reads
      rename_i hu hopn hmu
      split at hc
      · rename_i x rd hpk hcast hcl
        have ha : ArgsRep w (limX st β lim) none s.aty x (cl.args.toList.map a.eval) := by
          refine packArgs_rep (st := st) (β := β) (rb := rb) hpk (by simp) (fun i av v hi hv => ?_)
          simp only [List.getElem?_map] at hi hv
          cases hq : cl.args.toList[i]? with
          | none => rw [hq] at hi; cases hi
          | some y =>
            rw [hq] at hi hv
            injection hi with hi; injection hv with hv
            subst hi; subst hv
            exact argX_rep h y
        have hrdin : RdIn w (limX st β lim) none s rd := ⟨fun h' => (by rw [hu] at h'; cases h'), fun _ => rfl⟩
        cases hmk : mkD st o.dst with
        | true =>
          rw [hmk] at hc; simp only [cnd_true] at hc
          cases hfr : freeD st o.dst with
          | none => rw [hfr] at hc; cases hc
          | some d =>
            rw [hfr] at hc; simp only [] at hc
            injection hc with hc; subst hc
            simp only [Comp.out] at ho
            cases hfn : s.fn x rd with
            | none => rw [hfn] at ho; cases ho
            | some r =>
              rw [hfn] at ho; injection ho with ho; subst ho
              obtain ⟨hdst, hfio, _, _, hd0⟩ := free_some hfr
              intro K Q hK
              unfold Oper.wp
              rw [exec]
              refine Calls.mono (hf.calls hopn hmu x rd r hfn w (limX st β lim) none _ ha hrdin) ?_
              intro e w' hret
              obtain ⟨v, lim2, rfl, g1, g2, g3, g4, g5, g6, g7, g8, _, _⟩ := ret_closed hcl hret
              show K (a.put o.dst v) w'
              rw [hdst]
              have hX := XRep.of_crep w.heap.size g5 g4 (fun p hp u hu' => by
                obtain ⟨e', z, k1, k2, k3⟩ := g6 p hp
                rw [hu'] at k2; injection k2 with k2; subst k2
                rcases k3 with k3 | ⟨b, m, cc, arr, el, fr, k3, k4, k5, k6, k7, k8, k9⟩
                · exact .inl k3
                · refine .inr ⟨b, m, cc, arr, el, fr, k3, k5, k6, k7, fun e2 he2 => ?_⟩
                  rw [k1] at he2; injection he2 with he2; injection he2 with he2; subst he2; exact k8) g7
              refine hK _ _ (fun g => if g < w.heap.size then lim g else some 0) _ (h.newroot hrb (hd d hdst) hfio hd0 (rootOf s.one s.rty r.1) (rootAV s.one s.rty d) v _ g1.os g1.tape g1.output g1.size (fun k hk => g1.block k hk (by simp)) (fun k hk => by simp [hk]) g4 hX (fun g hg' => ?_) ?_)
              · obtain ⟨p, hp, u, hu', hbu⟩ := hg'
                obtain ⟨e', z, k1, k2, k3⟩ := g6 p hp
                rw [hu'] at k2; injection k2 with k2; subst k2
                rcases k3 with k3 | ⟨b, m, cc, arr, el, fr, k3, k4, _⟩
                · rw [k3] at hbu; cases hbu
                · rw [k3] at hbu; injection hbu with hbu
                  have hbu : b = g := hbu
                  subst hbu
                  exact ⟨k4, if_neg (by omega)⟩
              · rcases g8 with ⟨q1, q2, _⟩ | ⟨q1, q2, _⟩
                · exact .inl ⟨q1 d, q2⟩
                · exact .inr ⟨q1 d, q2⟩
        | false =>
          rw [hmk] at hc; simp only [cnd_false] at hc
          injection hc with hc; subst hc
          simp only [Comp.out] at ho
          cases hfn : s.fn x rd with
          | none => rw [hfn] at ho; cases ho
          | some r =>
            rw [hfn] at ho; injection ho with ho; subst ho
            intro K Q hK
            unfold Oper.wp
            rw [exec]
            refine Calls.mono (hf.calls hopn hmu x rd r hfn w (limX st β lim) none _ ha hrdin) ?_
            intro e w' hret
            obtain ⟨v, lim2, rfl, g1, g2, g3, g4, g5, g6, g7, g8, g9, g10⟩ := ret_closed hcl hret
            show K (a.put o.dst v) w'
            let l3 : Lim := fun g => if g < w.heap.size then lim g else lim2 g
            have hl3 : ∀ k, k < w.heap.size → l3 k = lim k := fun k hk => by simp [l3, hk]
            have hl3' : ∀ k, w.heap.size ≤ k → l3 k = lim2 k := fun k hk => by simp [l3, show ¬ k < w.heap.size by omega]
            have hblk : ∀ k, k < w.heap.size → w'.heap[k]? = w.heap[k]? := fun k hk => g1.block k hk (by simp)
            have htip : ∀ {sz : Nat} {z : Value}, Tip w' lim2 w.heap.size sz z → Tip w' l3 w0.heap.size sz z := by
              intro sz z hz
              rcases hz with hz | ⟨b, m, cc, arr, el, fr, k3, k4, k5, k6, k7, k8, k9⟩
              · exact .inl hz
              · exact .inr ⟨b, m, cc, arr, el, fr, k3, Nat.le_trans h.grow.size k4, k5, k6, k7, k8, (hl3' b k4).trans k9⟩
            have hre : CRep w' l3 (rootOf s.one s.rty r.1).1 (rootOf s.one s.rty r.1).2 (flatV v) := by
              refine CRep.relim g5 g4 (fun p hp u hu' g hgu => ?_)
              obtain ⟨e', z, k1, k2, k3⟩ := g6 p hp
              rw [hu'] at k2; injection k2 with k2; subst k2
              rcases k3 with k3 | ⟨b, m, cc, arr, el, fr, k3, k4, _⟩
              · rw [k3] at hgu; cases hgu
              · rw [k3] at hgu; injection hgu with hgu
                have hgu : b = g := hgu
                subst hgu; exact hl3' b k4
            refine hK _ _ l3 β (h.grown { upd0 o.dst (resAV s.rty s.one r.1) none with own := resOwn s.one s.own } v w' l3 hd rfl (ext_keep g1.size hblk hl3) (grow_keep h.grow g1.os g1.tape g1.output g1.size (fun k hk _ => hblk k (Nat.lt_of_lt_of_le hk h.grow.size)))
              (fun k hk _ _ => ⟨hblk k hk, hl3 k hk⟩) (fun k hk => ⟨hrb k hk, hl3 k (Nat.lt_of_lt_of_le (hrb k hk) h.grow.size)⟩) (ERep_res ?_) (fun p hp => ?_) (fun p hp q hq => g10 p hp q hq) rfl (.inl ⟨rfl, fun b hb => hblk b (Nat.lt_of_lt_of_le (hrb b hb.symm) h.grow.size)⟩))
            · rcases g8 with ⟨_, q2, q3⟩ | ⟨_, ⟨vs, q2, q3⟩, q4⟩
              · rw [q3]; exact ⟨_, hre, q2⟩
              · rw [q4]
                have hfv : flatV v = vs.flatMap fun v => v.cells.toList := by rw [q2]; simp [flatV]
                exact ⟨vs, q2, tup_iff.2 ⟨q3, by rw [← hfv]; exact hre⟩⟩
            · obtain ⟨e', z, k1, k2, k3⟩ := g9 p hp
              refine ⟨e', z, k1, k2, htip k3, fun g hgz => .inl ?_⟩
              rcases k3 with k3 | ⟨b, m, cc, arr, el, fr, k3, k4, _⟩
              · rw [k3] at hgz; cases hgz
              · rw [k3] at hgz; injection hgz with hgz
                have hgz : b = g := hgz
                rw [← hgz]; exact k4
      · cases hc
    · -- a call that writes
      rename_i hu hopn hmu
      obtain ⟨aty, rdty, usesRd, rty, one, own, opens, muts, fn⟩ := s
      simp only at hu hopn hmu hc hf
      split at hc
      · rename_i x0 xs hargs
        split at hc
        · rename_i r p hxe
          split at hc
          · rename_i d y hio hat
            split at hc
            · rename_i _ b _ _ rd hcast
              split at hc
              · rename_i x hpk hns
                injection hc with hc; subst hc
                simp only [Comp.out] at ho
                cases hfn : fn ((), x) rd with
                | none => rw [hfn] at ho; cases ho
                | some z =>
                  rw [hfn] at ho; injection ho with ho; subst ho
                  obtain ⟨e1, e2⟩ := cast_some hcast
                  obtain ⟨yt, yv⟩ := y
                  simp only at e1 e2
                  subst e1; subst e2
                  obtain ⟨dd, hio', hv⟩ := xf_val h hxe hat
                  rw [hio] at hio'; injection hio' with hio'; subst hio'
                  obtain ⟨d2, Bu, m1, m2, m3, m4, m5, m6, m7, m8⟩ := h.atX hat
                  rw [hio] at m1; injection m1 with m1; subst m1
                  have hx0 : a.eval x0 = wrapV yt (((flatV (β.V r)).drop (offs d.1 p)).take yt.size) := hv
                  have hav : cl.args.toList.map a.eval = a.eval x0 :: xs.map a.eval := by rw [hargs]; rfl
                  have ha : ArgsRep w lim none b x (xs.map a.eval) := by
                    refine packArgs_rep (st := st) (β := β) (rb := rb) hpk (by simp) (fun i av v hi hv' => ?_)
                    simp only [List.getElem?_map] at hi hv'
                    cases hq : xs[i]? with
                    | none => rw [hq] at hi; cases hi
                    | some y =>
                      rw [hq] at hi hv'
                      injection hi with hi; injection hv' with hv'
                      subst hi; subst hv'
                      exact h.ent y
                  intro K Q hK
                  unfold Oper.wp
                  rw [exec]
                  refine Calls.mono (hf.mutd hmu ((), x) rd z hfn w lim _ Bu (by rw [hav]; exact ⟨m5, ⟨_, hx0, m7⟩, ha⟩) (fun g hg' => (h.xs.base r d g hio (m6 g hg')).2.2)) ?_
                  intro e w' hret
                  obtain ⟨v, rfl, g1, g2, g3, g4, g5, g6, cs, g7, g8⟩ := hret
                  rw [hav] at g7
                  simp only [List.head?_cons] at g7
                  injection g7 with g7
                  have hcs : cs = ((flatV (β.V r)).drop (offs d.1 p)).take yt.size := by
                    have k1 := wrapV_cells (g8.crep (lim := fun _ => none) m5 (fun _ _ => rfl))
                    have k2 := wrapV_cells (m7.crep (lim := fun _ => none) m5 (fun _ _ => rfl))
                    rw [hx0] at g7
                    rw [g7, k1] at k2
                    have := congrArg Array.toList k2
                    simpa using this
                  rw [hcs] at g8
                  obtain ⟨x', hset⟩ := setP_ok (y := ⟨yt, rd⟩) z.2 m2
                  have hsd : setDat d p ⟨yt, z.2⟩ = ⟨d.1, x'⟩ := by
                    unfold setDat
                    have : setP d.1 d.2 p ⟨yt, z.2⟩ = some x' := hset
                    rw [this]
                  show K (a.put o.dst v) w'
                  have hst := h.setroot (o := o) (d' := ⟨d.1, x'⟩) (w' := w') (lim' := lim) hrb hd hio rfl (resAV rty one z.1) v g1 g2 g3 g4 (fun k hk hn => g5 k hk (fun hb => hn (m6 k hb))) (fun _ _ => rfl)
                    (m8 w' z.2 x' hset (fun g hg' hn => g5 g ((h.xs.io r d hio).2.lt g hg') hn) g8) (fun _ _ => ERep_res (res_noSl hns g6))
                  rw [← hsd] at hst
                  exact hK _ _ lim β hst
              · cases hc
            · cases hc
          · cases hc
        · cases hc
      · cases hc
    · cases hc
end
end Go.Den
