/- Calls, and one operation whichever. -/
import Derived.Test.YtbfndjfjkkfaeaaXDenQY
set_option linter.unusedVariables false
set_option linter.unusedSimpArgs false
namespace Go.Den

def ArgsRep (w : World) (lim : Lim) (rb : Option Nat) : (t : Ty) → t.val → List Value → Prop
  | .unit, _, [] => True
  | .prod a b, x, v :: vs => ((a ≠ .unit ∧ TRep w lim a x.1 v) ∨ (a = .unit ∧ ∃ g, rb = some g ∧ v = .pointer (some ⟨g, 0, none⟩))) ∧ ArgsRep w lim rb b x.2 vs
  | _, _, _ => False

/-- what a function's call comes to, when its reading gives 'r' -/
def RetOk (w : World) (lim : Lim) (rb : Option Nat) (s : Sig) (r : s.rty.val × s.rdty.val) (e : Ending) (w' : World) : Prop :=
  ∃ v lim', e = .returned v ∧ w.grownBy w' rb ∧ (∀ b, b < w.heap.size → lim' b = lim b) ∧ ERep st00 w' lim' mp0 none (resAV s.rty s.one r.1) v ∧
    (∀ p ∈ resOwn s.one s.own, ∃ e x, typeAV p (resAV s.rty s.one r.1) = some (.slice e) ∧ partAV v p (resAV s.rty s.one r.1) = some x ∧ Tip w' lim' w.heap.size e.size x) ∧
    (∀ p ∈ resOwn s.one s.own, ∀ q ∈ resOwn s.one s.own, ∀ x y g, partAV v p (resAV s.rty s.one r.1) = some x → partAV v q (resAV s.rty s.one r.1) = some y → blockOf x = some g → blockOf y = some g → p = q) ∧
    (s.usesRd = true → ∃ b cells e, rb = some b ∧ w'.heap[b]? = some (.cells cells e (0, 0)) ∧ CRep w' lim' s.rdty r.2 cells.toList)
/-- what a function needs of the reader -/
def RdIn (w : World) (lim : Lim) (rb : Option Nat) (s : Sig) (rd : s.rdty.val) : Prop :=
  (s.usesRd = true → ∃ b cells e, rb = some b ∧ w.heap[b]? = some (.cells cells e (0, 0)) ∧ CRep w lim s.rdty rd cells.toList ∧ lim b = some 0) ∧ (s.usesRd = false → rb = none)

/-- a call that hands out a pointer to a new box -/
def OpenOk (w : World) (lim : Lim) (t : Ty) (x : t.val) (e : Ending) (w' : World) : Prop :=
  ∃ b lim' cells e0, e = .returned (.pointer (some ⟨b, 0, none⟩)) ∧ w.grownBy w' none ∧ (∀ k, k < w.heap.size → lim' k = lim k) ∧ w.heap.size ≤ b ∧
    w'.heap[b]? = some (.cells cells e0 (0, 0)) ∧ CRep w' lim' t x cells.toList ∧ lim' b = some 0
/-- the arguments of a call that writes the arrays of the first one -/
def ArgsMut (w : World) (lim : Lim) : (t : Ty) → t.val → (rdty : Ty) → rdty.val → (Nat → Prop) → List Value → Prop
  | .prod .unit b, x, rdty, rd, B, v :: vs => flatT rdty = true ∧ (∃ cs, v = wrapV rdty cs ∧ XRep w rdty rd cs B) ∧ ArgsRep w lim none b x.2 vs
  | _, _, _, _, _, _ => False
def MutOk (w : World) (s : Sig) (r : s.rty.val × s.rdty.val) (B : Nat → Prop) (vals : List Value) (e : Ending) (w' : World) : Prop :=
  ∃ v, e = .returned v ∧ w'.os = w.os ∧ w'.tape = w.tape ∧ w'.output = w.output ∧ w.heap.size ≤ w'.heap.size ∧ (∀ k, k < w.heap.size → ¬ B k → w'.heap[k]? = w.heap[k]?) ∧
    ERep st00 w' (fun _ => none) mp0 none (resAV s.rty s.one r.1) v ∧ ∃ cs, vals.head? = some (wrapV s.rdty cs) ∧ XRep w' s.rdty r.2 cs B
structure FnOk (P : Program) (f : FuncId) (s : Sig) : Prop where
  enters : ∀ args (w : World), (callFunc f args).run P w = .ok (.enter f args) w
  calls : s.opens = false → s.muts = false → ∀ (x : s.aty.val) (rd : s.rdty.val) r, s.fn x rd = some r → ∀ (w : World) (lim : Lim) (rb : Option Nat) (vals : List Value), ArgsRep w lim rb s.aty x vals → RdIn w lim rb s rd →
    Calls P f vals.toArray w (RetOk w lim rb s r)
  opened : s.opens = true → ∀ (x : s.aty.val) (rd : s.rdty.val) r, s.fn x rd = some r → ∀ (w : World) (lim : Lim) (vals : List Value), ArgsRep w lim none s.aty x vals →
    Calls P f vals.toArray w (OpenOk w lim s.rty r.1)
  mutd : s.muts = true → ∀ (x : s.aty.val) (rd : s.rdty.val) r, s.fn x rd = some r → ∀ (w : World) (lim : Lim) (vals : List Value) (B : Nat → Prop), ArgsMut w lim s.aty x s.rdty rd B vals → (∀ g, B g → lim g = some 0) →
    Calls P f vals.toArray w (MutOk w s r B vals)
def GamOk (P : Program) (G : Gam) : Prop := ∀ f s, G f = some s → FnOk P f s

theorem resAV_cases (t : Ty) (one : Bool) (x : t.val) : (∃ u y, resAV t one x = .dat u y) ∨ resAV t one x = .tup t x := by
  unfold resAV
  split
  · exact .inl ⟨_, _, rfl⟩
  · exact .inr rfl
theorem ERep_res {st : St} {w : World} {lim : Lim} {β : Mp} {rb : Option Nat} {t : Ty} {one : Bool} {x : t.val} {v : Value} (h : ERep st00 w lim mp0 none (resAV t one x) v) : ERep st w lim β rb (resAV t one x) v := by
  rcases resAV_cases t one x with ⟨u, y, he⟩ | he <;> rw [he] at h ⊢ <;> exact h

section
variable {P : Program} {tab : Tab} {G : Gam} {w0 : Base} {lim0 : Lim} {rb : Option Nat} {n : Nat}
variable {st st' : St} {a : Act} {w w' : World} {lim lim' : Lim} {β : Mp} {o : Oper} {c : Comp}

/-- the block of the reader that is handed on -/
def rvBlock (rb : Option Nat) (β : Mp) : Option AV → Option Nat
  | some (.rdr _) => rb
  | some (.cel b _) => some (β b)
  | _ => none
theorem asArg_rep {rv : Option AV} {t : Ty} {av : AV} {x : t.val} (hx : asArg rv t av = some x) {v : Value} (hv : ERep st w lim β rb av v) : (t ≠ .unit ∧ TRep w lim t x v) ∨ (t = .unit ∧ ∃ g, rvBlock rb β rv = some g ∧ v = .pointer (some ⟨g, 0, none⟩)) := by
  unfold asArg at hx
  split at hx
  · obtain ⟨d, b, h1, h2, h3⟩ := hv
    split at hx
    · exact .inr ⟨rfl, b, h2, by simpa [offs] using h3⟩
    · cases hx
  · obtain ⟨d, h1, h2⟩ := hv
    split at hx
    · rename_i b _ c
      cases hq : Nat.beq b c with
      | false => rw [hq] at hx; cases hx
      | true =>
        have := nbeq hq; subst this
        exact .inr ⟨rfl, β b, rfl, by simpa [offs] using h2⟩
    · cases hx
  · cases hx
  · rename_i h0 h1 h2
    exact .inl ⟨fun e => by first | exact h0 e | exact h1 e | exact h2 e, as_rep hx hv⟩
theorem packArgs_rep {rv : Option AV} : ∀ {t : Ty} {avs : List AV} {x : t.val} {vals : List Value}, packArgs rv t avs = some x → avs.length = vals.length → (∀ (i : Nat) av v, avs[i]? = some av → vals[i]? = some v → ERep st w lim β rb av v) →
    ArgsRep w lim (rvBlock rb β rv) t x vals := by
  intro t
  induction t with
  | prod p q ihp ihq =>
    intro avs x vals hx hl hr
    cases avs with
    | nil => cases hx
    | cons av avs =>
      cases vals with
      | nil => simp at hl
      | cons v vals =>
        simp only [packArgs] at hx
        cases h1 : asArg rv p av with
        | none => rw [h1] at hx; cases hx
        | some y =>
          cases h2 : packArgs rv q avs with
          | none => rw [h1, h2] at hx; cases hx
          | some z =>
            rw [h1, h2] at hx; injection hx with hx; subst hx
            exact ⟨asArg_rep h1 (hr 0 av v rfl rfl), ihq h2 (by simpa using hl) (fun i av' v' hi hj => hr (i + 1) av' v' (by simpa using hi) (by simpa using hj))⟩
  | unit =>
    intro avs x vals hx hl hr
    cases avs with
    | nil => cases vals with
      | nil => trivial
      | cons v vs => simp at hl
    | cons av avs => cases hx
  | int k => intro avs x vals hx; cases avs <;> cases hx
  | bool => intro avs x vals hx; cases avs <;> cases hx
  | str => intro avs x vals hx; cases avs <;> cases hx
  | slice t => intro avs x vals hx; cases avs <;> cases hx

theorem ok_call (hG : GamOk P G) (h : Sim w0 lim0 rb n st a w lim β) (hrb : ∀ k, some k = rb → k < w0.heap.size) (hd : ∀ d, o.dst = some d → d < n) {f : FuncId} {cl : Call} (hop : o.op = .call cl) (hcal : cl.callee = .value (.func f))
    (hc : stCall G o f cl.args.toList st = some c) (ho : c.out st = some st') : OpOk P w0 lim0 rb n o st' a w := by
  unfold stCall at hc
  cases hg : G f with
  | none => rw [hg] at hc; cases hc
  | some s =>
    rw [hg] at hc; simp only [] at hc
    have hf := hG f s hg
    cases hmu : s.muts with
    | true => rw [hmu] at hc; cases hc
    | false =>
    rw [hmu] at hc; simp only [cnd_false] at hc
    have hvals : (cl.args.map a.eval) = (cl.args.toList.map a.eval).toArray := by apply Array.ext'; rw [Array.toList_map]
    have exec : (execOp a.eval o).run P w = .ok (.enter f (cl.args.toList.map a.eval).toArray) w := by
      have e1 : ∀ args, (Deferred.ofValue (.func (.func f) #[] #[]) args) = (pure { target := .fn (.func f) #[], args := args } : Sem Deferred) := by
        intro args; simp [Deferred.ofValue]
      simp only [execOp, hop, resolve, hcal, Act.eval, hvals, e1, Sem.run_bind, Sem.run_pure, Result.andThen_ok, invoke]
      simpa using hf.enters _ w
    have hargs : ∀ rv x, packArgs rv s.aty (cl.args.toList.map fun x => (st.ent x).av) = some x → ArgsRep w lim (rvBlock rb β rv) s.aty x (cl.args.toList.map a.eval) := by
      intro rv x hx
      refine packArgs_rep (st := st) (β := β) hx (by simp) (fun i av v hi hv => ?_)
      simp only [List.getElem?_map] at hi hv
      cases hq : cl.args.toList[i]? with
      | none => rw [hq] at hi; cases hi
      | some y =>
        rw [hq] at hi hv
        injection hi with hi; injection hv with hv
        subst hi; subst hv
        exact h.ent y
    -- what is known behind the call
    have back : s.opens = false → ∀ (x : s.aty.val) (rd : s.rdty.val) (r : s.rty.val × s.rdty.val) (u : Upd), s.fn x rd = some r → ArgsRep w lim (if s.usesRd then rb else none) s.aty x (cl.args.toList.map a.eval) → RdIn w lim (if s.usesRd then rb else none) s rd →
        u.dst = o.dst → u.ent = ⟨resAV s.rty s.one r.1, none⟩ → u.own = resOwn s.one s.own → u.takes = [] → u.bw = none → u.xw = none → u.xbw = none →
        ((u.rd = none ∧ s.usesRd = false) ∨ (s.usesRd = true ∧ ∃ d0, u.rd = some ⟨s.rdty, r.2⟩ ∧ st.rd = some d0 ∧ d0.1 = s.rdty)) → OpOk P w0 lim0 rb n o (apply st u) a w := by
      intro hopn x rd r u hfn hpk hrdin hu1 hu2 hu3 hu4 hu5 hx1 hx2 hu6 K Q hK
      unfold Oper.wp
      rw [exec]
      refine Calls.mono (hf.calls hopn hmu x rd r hfn w lim _ _ hpk hrdin) ?_
      intro e w' hret
      obtain ⟨v, lim', rfl, g1, g2, g3, g4, g5, g6⟩ := hret
      have hrbsub : ∀ k, some k ≠ rb → some k ≠ (if s.usesRd then rb else none) := by
        intro k hk; cases s.usesRd <;> simp [hk]
      have hext : Ext w lim w' lim' := by
        refine ⟨g1.size, fun b oo z hb hu hz => ?_, fun b m hb hu => by unfold under; rw [g2 b hb]; exact hu⟩
        by_cases hq : some b = (if s.usesRd then rb else none)
        · exfalso
          cases hus : s.usesRd with
          | false => rw [hus] at hq; cases hq
          | true =>
            obtain ⟨b', cells, e', k1, _, _, k2⟩ := hrdin.1 hus
            rw [← hq] at k1; injection k1 with k1; subst k1
            have := hu 0 k2; omega
        · exact (World.cell?_of_block (g1.block b hb hq)).trans hz
      show K (a.put o.dst v) w'
      rw [← hu1]
      refine hK _ _ lim' β (h.grown u v w' lim' (by rw [hu1]; exact hd) hu5 hext (grow_keep h.grow g1.os g1.tape g1.output g1.size (fun k hk hne => g1.block k (Nat.lt_of_lt_of_le hk h.grow.size) (hrbsub k hne)))
        (fun k hk hne _ => ⟨g1.block k hk (hrbsub k hne), g2 k hk⟩) (fun k hk => ⟨hrb k hk, g2 k (Nat.lt_of_lt_of_le (hrb k hk) h.grow.size)⟩) (by rw [hu2]; exact ERep_res g3) (fun p hp => ?_) (fun p hp q hq => ?_) (by rw [hu2]) ?_ hx1 hx2)
      · rw [hu3] at hp
        obtain ⟨e, y, m1, m2, m3⟩ := g4 p hp
        refine ⟨e, y, by rw [hu2]; exact m1, by rw [hu2]; exact m2, ?_, fun g hg => .inl ?_⟩
        · rcases m3 with m3 | ⟨b, m, cc, arr, el, fr, q1, q2, q3⟩
          · exact .inl m3
          · exact .inr ⟨b, m, cc, arr, el, fr, q1, Nat.le_trans h.grow.size q2, q3⟩
        · rcases m3 with m3 | ⟨b, m, cc, arr, el, fr, q1, q2, q3⟩
          · rw [m3] at hg; cases hg
          · rw [q1] at hg; injection hg with hg; rw [← hg]; exact q2
      · rw [hu3] at hp hq
        rw [hu2]
        exact g5 p hp q hq
      · rcases hu6 with ⟨q1, q2⟩ | ⟨q1, d0, q2, q3, q4⟩
        · refine .inl ⟨q1, fun b hb => ?_⟩
          exact g1.block b (Nat.lt_of_lt_of_le (hrb b hb.symm) h.grow.size) (by rw [q2]; simp)
        · obtain ⟨b, cells, e', k1, k2, k3⟩ := g6 q1
          rw [q1] at k1
          have k1 : rb = some b := by simpa using k1
          obtain ⟨b', cs', e2, k4, k5, _, _, k6⟩ := h.rd d0 q3
          rw [k1] at k4; injection k4 with k4; subst k4
          refine .inr ⟨⟨s.rdty, r.2⟩, d0, q2, q3, q4.symm, b, cells, e', k1, k5, k2, k3, ?_⟩
          rw [g2 b (Nat.lt_of_lt_of_le k5 h.grow.size)]; exact k6
    split at hc
    · rename_i hus hopn
      split at hc
      · -- the function's own reader is handed on
        split at hc
        · rename_i x d hpk hrd
          cases hcast : Ty.cast d.1 s.rdty d.2 with
          | none => rw [hcast] at hc; cases hc
          | some rd =>
            rw [hcast] at hc
            injection hc with hc; subst hc
            simp only [Comp.out] at ho
            cases hfn : s.fn x rd with
            | none => rw [hfn] at ho; cases ho
            | some r =>
              rw [hfn] at ho; injection ho with ho; subst ho
              obtain ⟨hty, hrdv⟩ := cast_some hcast
              obtain ⟨b, cells, e, k1, k2, k3, k4, k5⟩ := h.rd d hrd
              have ha := hargs _ x hpk
              refine back hopn x rd r _ hfn (by rw [hus]; exact ha) ⟨fun _ => ⟨b, cells, e, by rw [hus]; exact k1, k3, ?_, k5⟩, fun hf' => (by rw [hus] at hf'; cases hf')⟩ rfl rfl rfl rfl rfl rfl rfl (.inr ⟨hus, d, rfl, hrd, hty⟩)
              obtain ⟨dt, dv⟩ := d
              simp only at hty hrdv k4
              subst hty; subst hrdv; exact k4
        · cases hc
      · -- a reader that this function opened
        rename_i b hro
        split at hc
        · rename_i x d hpk hbx
          cases hcast : Ty.cast d.1 s.rdty d.2 with
          | none => rw [hcast] at hc; cases hc
          | some rd =>
            rw [hcast] at hc
            injection hc with hc; subst hc
            simp only [Comp.out] at ho
            cases hfn : s.fn x rd with
            | none => rw [hfn] at ho; cases ho
            | some r =>
              rw [hfn] at ho; injection ho with ho; subst ho
              obtain ⟨hty, hrdv⟩ := cast_some hcast
              obtain ⟨dt, dv⟩ := d
              simp only at hty hrdv
              subst hty; subst hrdv
              obtain ⟨cells, e, k1, k2, k3, k4⟩ := h.box b _ hbx
              have ha := hargs _ x hpk
              have hbl : β b < w.heap.size := (Array.getElem?_eq_some_iff.1 k1).1
              intro K Q hK
              unfold Oper.wp
              rw [exec]
              refine Calls.mono (hf.calls hopn hmu x _ r hfn w lim (some (β b)) _ ha ⟨fun _ => ⟨β b, cells, e, rfl, k1, k2, k4⟩, fun hf' => (by rw [hus] at hf'; cases hf')⟩) ?_
              intro e' w' hret
              obtain ⟨v, lim', rfl, g1, g2, g3, g4, g5, g6⟩ := hret
              obtain ⟨b', cells', e2, m1, m2, m3⟩ := g6 hus
              injection m1 with m1; subst m1
              have hext : Ext w lim w' lim' := by
                refine ⟨g1.size, fun c oo z hb hu hz => ?_, fun c m hb hu => by unfold under; rw [g2 c hb]; exact hu⟩
                by_cases hq : c = β b
                · exfalso
                  subst hq
                  have := hu 0 k4; omega
                · exact (World.cell?_of_block (g1.block c hb (fun e => hq (by injection e)))).trans hz
              have hgrow : w0.grownBy w' rb := grow_keep h.grow g1.os g1.tape g1.output g1.size (fun k hk _ => g1.block k (Nat.lt_of_lt_of_le hk h.grow.size) (fun e => by injection e with e; subst e; exact absurd k3 (Nat.not_le_of_lt hk)))
              show K (a.put o.dst v) w'
              refine hK _ _ lim' β (h.boxw { upd0 o.dst (resAV s.rty s.one r.1) none with bw := some (b, ⟨s.rdty, r.2⟩, [], []) } v w' lim' β b ⟨s.rdty, r.2⟩ [] [] hd rfl rfl rfl rfl hext hgrow
                (fun k hk hne => ⟨g1.block k hk (fun e => by injection e with e; exact hne _ hbx e), g2 k hk⟩) (fun _ _ _ => rfl) (fun hn => by rw [hbx] at hn; cases hn) hrb cells' e2 m2 m3 (by rw [g2 _ hbl]; exact k4)
                (fun d0 hd0 => ?_) (fun _ _ => ERep_res g3) (fun p => .tmp 0 p) (fun p hp => by cases hp) (fun p hp => by cases hp))
              rw [hbx] at hd0; injection hd0 with hd0; subst hd0
              exact ⟨rfl, fun p e' _ hp => by cases p <;> cases hp⟩
        · cases hc
      · cases hc
    · rename_i hus hopn
      split at hc
      · rename_i x rd hpk hcast
        injection hc with hc; subst hc
        simp only [Comp.out] at ho
        cases hfn : s.fn x rd with
        | none => rw [hfn] at ho; cases ho
        | some r =>
          rw [hfn] at ho; injection ho with ho; subst ho
          have ha := hargs _ x hpk
          exact back hopn x rd r _ hfn (by rw [hus]; exact ha) ⟨fun hf' => (by rw [hus] at hf'; cases hf'), fun _ => (by rw [hus]; rfl)⟩ rfl rfl rfl rfl rfl rfl rfl (.inl ⟨rfl, hus⟩)
      · cases hc
    · rename_i hus hopn
      split at hc
      · rename_i x rd d hpk hcast hdst
        split at hc
        · rename_i hbx
          injection hc with hc; subst hc
          simp only [Comp.out] at ho
          cases hfn : s.fn x rd with
          | none => rw [hfn] at ho; cases ho
          | some r =>
            rw [hfn] at ho; injection ho with ho; subst ho
            have ha := hargs _ x hpk
            intro K Q hK
            unfold Oper.wp
            rw [exec]
            refine Calls.mono (hf.opened hopn x rd r hfn w lim _ ha) ?_
            intro e' w' hret
            obtain ⟨b, lim', cells, e0, rfl, g1, g2, g3, g4, g5, g6⟩ := hret
            have hext : Ext w lim w' lim' :=
              ⟨g1.size, fun c oo z hb hu hz => (World.cell?_of_block (g1.block c hb (fun e => by cases e))).trans hz, fun c m hb hu => by unfold under; rw [g2 c hb]; exact hu⟩
            have hgrow : w0.grownBy w' rb := grow_keep h.grow g1.os g1.tape g1.output g1.size (fun k hk _ => g1.block k (Nat.lt_of_lt_of_le hk h.grow.size) (fun e => by cases e))
            show K (a.put o.dst (.pointer (some ⟨b, 0, none⟩))) w'
            rw [hdst]
            have hold : ∀ c dd, st.box c = some dd → c ≠ d := fun c dd hc e => by rw [e, hbx] at hc; cases hc
            refine hK _ _ lim' { β with b := fun t => if t = d then b else β t } (h.boxw { upd0 (some d) (.cel d []) none with bw := some (d, ⟨s.rty, r.1⟩, [], []) } _ w' lim' { β with b := fun t => if t = d then b else β t } d ⟨s.rty, r.1⟩ [] []
              (fun d' hd' => hd d' (by rw [hdst]; exact hd')) rfl rfl rfl rfl hext hgrow
              (fun k hk _ => ⟨g1.block k hk (fun e => by cases e), g2 k hk⟩) (fun c dd hc => by simp [hold c dd hc]) (fun _ => by simpa using g3) hrb cells e0 (by simpa using g4) g5 (by simpa using g6)
              (fun d0 hd0 => by rw [hbx] at hd0; cases hd0) (fun _ _ => ⟨⟨s.rty, r.1⟩, ?_, ?_⟩) (fun p => .tmp 0 p) (fun p hp => by cases hp) (fun p hp => by cases hp))
            · simp [apply]
            · have : offs s.rty [] = 0 := by cases s.rty <;> rfl
              simp [this]
        · cases hc
      · cases hc
    · cases hc

end
end Go.Den
