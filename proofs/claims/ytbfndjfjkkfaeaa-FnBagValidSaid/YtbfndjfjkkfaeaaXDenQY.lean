/- Trees of one's own: the relation under steps that make or write them. -/
import Derived.Test.YtbfndjfjkkfaeaaXDenQX
set_option linter.unusedVariables false
set_option linter.unusedSimpArgs false
namespace Go.Den
section
variable {P : Program} {tab : Tab} {w0 : Base} {lim0 : Lim} {rb : Option Nat} {n : Nat}
variable {st st' : St} {a : Act} {w w' : World} {lim lim' : Lim} {β β' : Mp} {o : Oper} {c : Comp}

/-- a step that changes nothing but trees and new memory -/
theorem Sim.treew (h : Sim w0 lim0 rb n st a w lim β) (hrb : ∀ k, some k = rb → k < w0.heap.size) (u : Upd) (v : Value) (hd : ∀ d, u.dst = some d → d < n) (hno : u.own = []) (hta : u.takes = []) (hbw : u.bw = none) (hrd : u.rd = none) (htag : u.ent.tag = none)
    (h1 : w'.os = w.os) (h2 : w'.tape = w.tape) (h3 : w'.output = w.output) (hs : w.heap.size ≤ w'.heap.size) (C : Nat → Prop) (hC : ∀ k, C k → isTree st β k)
    (hk : ∀ k, k < w.heap.size → ¬ C k → w'.heap[k]? = w.heap[k]?) (hl : ∀ k, k < w.heap.size → lim' k = lim k) (hβ : β'.b = β.b)
    (hval : ∀ d, u.dst = some d → ERep (apply st u) w' lim' β' rb u.ent.av v)
    (hio : ∀ r d, st.io r = some d → ∃ d', (apply st u).io r = some d' ∧ d'.1 = d.1 ∧ β'.V r = β.V r)
    (hxb : ∀ b t o, st.xb b = some (t, o) → (∃ o', (apply st u).xb b = some (t, o')) ∧ β'.c b = β.c b)
    (hxs : (∀ l, st.own l = true → (apply st u).own l = true → locV (apply st u) (a.put u.dst v) w' β' l = locV st a w β l) → Own w0 rb (apply st u) (a.put u.dst v) w' lim' β') :
    Sim w0 lim0 rb n (apply st u) (a.put u.dst v) w' lim' β' := by
  have hnb : ∀ c d o q, u.bw ≠ some (c, d, o, q) := fun _ _ _ _ e => by rw [hbw] at e; cases e
  have noNew : ∀ l, ¬ newOwn u l := by
    intro l hl
    cases l with
    | tmp t p => have := hl.2; rw [hno] at this; cases this
    | box b p => obtain ⟨d, o, q, he, _⟩ := hl; exact hnb _ _ _ _ he
  have hext : Ext w lim w' lim' := ⟨hs, fun b oo z hb hu hz => by
    by_cases hc : C b
    · have := hu 0 (h.xs.lt (hC b hc)).2.2; omega
    · exact (World.cell?_of_block (hk b hb hc)).trans hz, fun b m hb hu => by unfold under; rw [hl b hb]; exact hu⟩
  have hgrow : w0.grownBy w' rb := ⟨h1.trans h.grow.os, h2.trans h.grow.tape, h3.trans h.grow.output, Nat.le_trans h.grow.size hs, fun k hk' hne hX => by
    have hkk : w'.heap[k]? = w.heap[k]? := hk k (Nat.lt_of_lt_of_le hk' h.grow.size) (fun hc => by
      rcases (h.xs.lt (hC k hc)).2.1 with h4 | h4
      · omega
      · exact hX h4)
    exact hkk.trans (h.grow.block k hk' hne hX)⟩
  refine h.step u v w' lim' β' hd hext hgrow (fun b hb => hl b (Nat.lt_of_lt_of_le hb h.grow.size)) (fun b d _ => by rw [hβ]) hval (fun b d hbd _ => ?_) (fun l x g hst hx hg => ?_)
    (fun c d o q he => absurd he (hnb _ _ _ _)) (fun l hl => absurd hl (noNew l)) (fun l m x y g hl => absurd hl (noNew l)) (fun d l _ ht => by rw [htag] at ht; cases ht) (.inl ⟨hrd, fun d b hd' hb => ?_⟩) hio hxb (fun hst => hxs fun l hl hl' => ?_)
  · obtain ⟨cells, e, k1, _⟩ := h.box b d hbd
    have hlt := (Array.getElem?_eq_some_iff.1 k1).1
    exact ⟨hk _ hlt (fun hc => h.xs.offb hbd (hC _ hc)), hl _ hlt⟩
  · have hlt := (h.lt hst.1 hx hg).1
    exact ⟨hk _ hlt (fun hc => h.xs.off hst.1 hx hg (hC _ hc)), hl _ hlt⟩
  · have hlt := hrb b hb.symm
    have hlt' := Nat.lt_of_lt_of_le hlt h.grow.size
    refine ⟨hk _ hlt' (fun hc => ?_), hl _ hlt'⟩
    rcases hC _ hc with ⟨r, d', k1, k2⟩ | ⟨c, t, o, k1, k2⟩
    · exact (h.xs.base r d' _ k1 k2).2.1 hb.symm
    · obtain ⟨_, _, _, _, k3, _⟩ := h.xs.xb c t o k1
      omega
  · rcases own_apply hl' with hn | hs'
    · exact absurd hn (noNew l)
    · exact hst l hs'
theorem own_none {u : Upd} (hno : u.own = []) (hta : u.takes = []) (hbw : u.bw = none) {l : Loc} (h : (apply st u).own l = true) : st.own l = true := by
  rcases own_apply h with hn | hs
  · cases l with
    | tmp t p => have := hn.2; rw [hno] at this; cases this
    | box b p => obtain ⟨d, o, q, he, _⟩ := hn; rw [hbw] at he; cases he
  · exact hs.1

/-- a new tree -/
theorem Sim.newroot (h : Sim w0 lim0 rb n st a w lim β) (hrb : ∀ k, some k = rb → k < w0.heap.size) {d : Tmp} (hd : d < n) (hfree : st.io d = none) (hd0 : d ≠ 0) (dat : Dat) (av : AV) (v : Value) (B0 : Nat → Prop)
    (h1 : w'.os = w.os) (h2 : w'.tape = w.tape) (h3 : w'.output = w.output) (hs : w.heap.size ≤ w'.heap.size) (hk : ∀ k, k < w.heap.size → w'.heap[k]? = w.heap[k]?) (hl : ∀ k, k < w.heap.size → lim' k = lim k)
    (hflat : flatT dat.1 = true) (hX : XRep w' dat.1 dat.2 (flatV v) B0) (hB : ∀ g, B0 g → w.heap.size ≤ g ∧ lim' g = some 0) (hav : (av = .xf d [] ∧ v = wrapV dat.1 (flatV v)) ∨ (av = .xt d ∧ ∃ vs, v = .tuple vs.toArray ∧ TupSh dat.1 vs)) :
    Sim w0 lim0 rb n (apply st { upd0 (some d) av none with xw := some (d, dat) }) (a.put (some d) v) w' lim' { β with V := fun r => if r = d then v else β.V r, B := fun r => if r = d then B0 else β.B r } := by
  have hne : ∀ r x, st.io r = some x → r ≠ d := fun r x hr e => by rw [e, hfree] at hr; cases hr
  have hio : ∀ r, r ≠ d → (apply st { upd0 (some d) av none with xw := some (d, dat) }).io r = st.io r := fun r hr => by
    have : Nat.beq r d = false := by
      cases hq : Nat.beq r d with
      | true => exact absurd (nbeq hq) hr
      | false => rfl
    simp [apply, this]
  have hiod : (apply st { upd0 (some d) av none with xw := some (d, dat) }).io d = some dat := by simp [apply]
  have hxb : (apply st { upd0 (some d) av none with xw := some (d, dat) }).xb = st.xb := by simp [apply, upd0]
  have hbx : (apply st { upd0 (some d) av none with xw := some (d, dat) }).box = st.box := by simp [apply, upd0]
  refine h.treew hrb { upd0 (some d) av none with xw := some (d, dat) } v (fun d' hd' => by injection hd' with hd'; rw [← hd']; exact hd) rfl rfl rfl rfl rfl h1 h2 h3 hs (fun _ => False) (fun _ h => h.elim) (fun k hk' _ => hk k hk') hl rfl (fun d' hd' => ?_)
    (fun r x hr => ⟨x, by rw [hio r (hne r x hr)]; exact hr, rfl, by simp [hne r x hr]⟩) (fun b t o hb => ⟨⟨o, by rw [hxb]; exact hb⟩, rfl⟩) (fun hst => ?_)
  · show ERep _ _ _ _ _ av v
    rcases hav with ⟨rfl, hv⟩ | ⟨rfl, vs, hv, hts⟩
    · refine ⟨dat, dat.1, hiod, by cases dat.1 <;> rfl, ?_⟩
      have e0 : offs dat.1 [] = 0 := by cases dat.1 <;> rfl
      simp only [if_true, e0, List.drop_zero]
      rw [← hX.length, List.take_length]; exact hv
    · exact ⟨by simp, dat, vs, hiod, hv, hts⟩
  · have cas : ∀ r x, (apply st { upd0 (some d) av none with xw := some (d, dat) }).io r = some x → (r = d ∧ x = dat) ∨ (r ≠ d ∧ st.io r = some x) := by
      intro r x hr
      by_cases e : r = d
      · subst e; rw [hiod] at hr; injection hr with hr; exact .inl ⟨rfl, hr.symm⟩
      · rw [hio r e] at hr; exact .inr ⟨e, hr⟩
    have old : ∀ r x g, st.io r = some x → β.B r g → g < w.heap.size := fun r x g hr hg => (h.xs.io r x hr).2.lt g hg
    have ownlt : ∀ l z g, (apply st { upd0 (some d) av none with xw := some (d, dat) }).own l = true → locV (apply st { upd0 (some d) av none with xw := some (d, dat) }) (a.put (some d) v) w' { β with V := fun r => if r = d then v else β.V r, B := fun r => if r = d then B0 else β.B r } l = some z → blockOf z = some g → st.own l = true ∧ locV st a w β l = some z ∧ g < w.heap.size := by
      intro l z g hl hz hg
      have ho := own_none (u := { upd0 (some d) av none with xw := some (d, dat) }) rfl rfl rfl hl
      replace hz := (hst l ho hl).symm.trans hz
      exact ⟨ho, hz, (h.lt ho hz hg).1⟩
    refine ⟨fun r x hr => ?_, fun r x g hr hg => ?_, fun r x g hr hg b d' hb he => ?_, fun r x g hr hg l z hl hz hgz => ?_, fun r x r' x' g hr hr' hg hg' => ?_, fun b t o hb => ?_, fun b t o hb => ?_, fun b c t o t' o' hb hc he => ?_, fun x hx hm => ?_⟩
    · rcases cas r x hr with ⟨rfl, rfl⟩ | ⟨e, hr⟩
      · simp only [if_true]; exact ⟨hflat, hX⟩
      · obtain ⟨k1, k2⟩ := h.xs.io r x hr
        simp only [e, if_false]
        exact ⟨k1, k2.keep fun g hg => hk g (old r x g hr hg)⟩
    · rcases cas r x hr with ⟨rfl, rfl⟩ | ⟨e, hr⟩
      · simp only [if_true] at hg
        obtain ⟨k1, k2⟩ := hB g hg
        exact ⟨.inl (Nat.le_trans h.grow.size k1), fun e => (by have := hrb g e; have := h.grow.size; omega), k2⟩
      · simp only [e, if_false] at hg
        obtain ⟨k1, k2, k3⟩ := h.xs.base r x g hr hg
        exact ⟨k1, k2, (hl g (old r x g hr hg)).trans k3⟩
    · rw [hbx] at hb
      rcases cas r x hr with ⟨rfl, rfl⟩ | ⟨e, hr⟩
      · simp only [if_true] at hg
        obtain ⟨cells, e, k1, _⟩ := h.box b d' hb
        have := (Array.getElem?_eq_some_iff.1 k1).1
        have := (hB g hg).1
        have he : β b = g := he
        omega
      · simp only [e, if_false] at hg
        exact h.xs.box r x g hr hg b d' hb he
    · obtain ⟨k1, k2, k3⟩ := ownlt l z g hl hz hgz
      rcases cas r x hr with ⟨rfl, rfl⟩ | ⟨e, hr⟩
      · simp only [if_true] at hg
        have := (hB g hg).1; omega
      · simp only [e, if_false] at hg
        exact h.xs.own r x g hr hg l z k1 k2 hgz
    · rcases cas r x hr with ⟨e1, e2⟩ | ⟨e, hs1⟩ <;> rcases cas r' x' hr' with ⟨e1', e2'⟩ | ⟨e', hs2⟩
      · rw [e1, e1']
      · simp only [e1, if_true] at hg
        simp only [e', if_false] at hg'
        have := (hB g hg).1; have := old r' x' g hs2 hg'; omega
      · simp only [e1', if_true] at hg'
        simp only [e, if_false] at hg
        have := (hB g hg').1; have := old r x g hs1 hg; omega
      · simp only [e, if_false] at hg
        simp only [e', if_false] at hg'
        exact h.xs.dis r x r' x' g hs1 hs2 hg hg'
    · rw [hxb] at hb
      obtain ⟨cells, e, k1, k2, k3, k4, k5⟩ := h.xs.xb b t o hb
      have hlt := (Array.getElem?_eq_some_iff.1 k1).1
      refine ⟨cells, e, (hk _ hlt).trans k1, k2, k3, (hl _ hlt).trans k4, fun r q ho => ?_⟩
      obtain ⟨x, m1, m2, m3⟩ := k5 r q ho
      have hr := hne r x m1
      exact ⟨x, by rw [hio r hr]; exact m1, m2, by simp only [hr, if_false]; exact m3⟩
    · rw [hxb] at hb
      obtain ⟨k1, k2, k3⟩ := h.xs.xbox b t o hb
      obtain ⟨cells, e, m1, _⟩ := h.xs.xb b t o hb
      have hlt := (Array.getElem?_eq_some_iff.1 m1).1
      refine ⟨fun c x hc => by rw [hbx] at hc; exact k1 c x hc, fun l z hl hz hg => ?_, fun r x hr hg => ?_⟩
      · obtain ⟨q1, q2, _⟩ := ownlt l z _ hl hz hg
        exact k2 l z q1 q2 hg
      · rcases cas r x hr with ⟨rfl, rfl⟩ | ⟨e', hr⟩
        · simp only [if_true] at hg
          have := (hB _ hg).1
          have hlt : β.c b < w.heap.size := hlt
          have : w.heap.size ≤ β.c b := this
          omega
        · simp only [e', if_false] at hg
          exact k3 r x hr hg
    · rw [hxb] at hb hc
      exact h.xs.xinj b c t o t' o' hb hc he
    · have e0 : (0 : Tmp) ≠ d := fun e => hd0 e.symm
      rw [hio 0 e0] at hx
      simp only [e0, if_false]
      exact h.xs.fix x hx hm

/-- a tree is written -/
theorem Sim.setroot (h : Sim w0 lim0 rb n st a w lim β) (hrb : ∀ k, some k = rb → k < w0.heap.size) (hd : ∀ d, o.dst = some d → d < n) {r : Tmp} {d d' : Dat} (hr : st.io r = some d) (hty : d'.1 = d.1) (av : AV) (v : Value)
    (h1 : w'.os = w.os) (h2 : w'.tape = w.tape) (h3 : w'.output = w.output) (hs : w.heap.size ≤ w'.heap.size) (hk : ∀ k, k < w.heap.size → ¬ β.B r k → w'.heap[k]? = w.heap[k]?)
    (hl : ∀ k, k < w.heap.size → lim' k = lim k)
    (hX : XRep w' d'.1 d'.2 (flatV (β.V r)) (β.B r)) (hval : ∀ d, o.dst = some d → ERep (apply st { upd0 o.dst av none with xw := some (r, d') }) w' lim' β rb av v) :
    Sim w0 lim0 rb n (apply st { upd0 o.dst av none with xw := some (r, d') }) (a.put o.dst v) w' lim' β := by
  have hio : ∀ k, k ≠ r → (apply st { upd0 o.dst av none with xw := some (r, d') }).io k = st.io k := fun k hk' => by
    have : Nat.beq k r = false := by
      cases hq : Nat.beq k r with
      | true => exact absurd (nbeq hq) hk'
      | false => rfl
    simp [apply, this]
  have hior : (apply st { upd0 o.dst av none with xw := some (r, d') }).io r = some d' := by simp [apply]
  have hxb : (apply st { upd0 o.dst av none with xw := some (r, d') }).xb = st.xb := by simp [apply, upd0]
  have hbx : (apply st { upd0 o.dst av none with xw := some (r, d') }).box = st.box := by simp [apply, upd0]
  have hB : ∀ g, β.B r g → g < w.heap.size := fun g hg => (h.xs.io r d hr).2.lt g hg
  refine h.treew hrb { upd0 o.dst av none with xw := some (r, d') } v hd rfl rfl rfl rfl rfl h1 h2 h3 hs (fun k => β.B r k) (fun k hk' => .inl ⟨r, d, hr, hk'⟩) hk hl rfl hval
    (fun k x hx => ?_) (fun b t o' hb => ⟨⟨o', by rw [hxb]; exact hb⟩, rfl⟩) (fun hst => ?_)
  · by_cases e : k = r
    · subst e; rw [hr] at hx; injection hx with hx; subst hx; exact ⟨d', hior, hty, rfl⟩
    · exact ⟨x, by rw [hio k e]; exact hx, rfl, rfl⟩
  · have cas : ∀ k x, (apply st { upd0 o.dst av none with xw := some (r, d') }).io k = some x → ∃ y, st.io k = some y ∧ x.1 = y.1 ∧ (k = r → x = d') ∧ (k ≠ r → x = y) := by
      intro k x hx
      by_cases e : k = r
      · subst e; rw [hior] at hx; injection hx with hx; subst hx; exact ⟨d, hr, hty, fun _ => rfl, fun h => absurd rfl h⟩
      · rw [hio k e] at hx; exact ⟨x, hx, rfl, fun h => absurd h e, fun _ => rfl⟩
    have old : ∀ k x g, st.io k = some x → β.B k g → g < w.heap.size := fun k x g hx hg => (h.xs.io k x hx).2.lt g hg
    have ownlt : ∀ l z g, (apply st { upd0 o.dst av none with xw := some (r, d') }).own l = true → locV (apply st { upd0 o.dst av none with xw := some (r, d') }) (a.put o.dst v) w' β l = some z → blockOf z = some g → st.own l = true ∧ locV st a w β l = some z := by
      intro l z g hl hz hg
      have ho := own_none (u := { upd0 o.dst av none with xw := some (r, d') }) rfl rfl rfl hl
      replace hz := (hst l ho hl).symm.trans hz
      exact ⟨ho, hz⟩
    refine ⟨fun k x hx => ?_, fun k x g hx hg => ?_, fun k x g hx hg b q hb he => ?_, fun k x g hx hg l z hl' hz hgz => ?_, fun k x k' x' g hx hx' hg hg' => ?_, fun b t q hb => ?_, fun b t q hb => ?_, fun b c t q t' q' hb hc he => ?_, fun x hx hm => ?_⟩
    · obtain ⟨y, k1, k2, k3, k4⟩ := cas k x hx
      by_cases e : k = r
      · have := k3 e; subst this; subst e
        refine ⟨?_, hX⟩
        rw [hty]; exact (h.xs.io k d hr).1
      · have := k4 e; subst this
        obtain ⟨m1, m2⟩ := h.xs.io k x k1
        exact ⟨m1, m2.keep fun g hg => hk g (old k x g k1 hg) (fun hgr => e (h.xs.dis k x r d g k1 hr hg hgr))⟩
    · obtain ⟨y, k1, _⟩ := cas k x hx
      obtain ⟨m1, m2, m3⟩ := h.xs.base k y g k1 hg
      exact ⟨m1, m2, (hl g (old k y g k1 hg)).trans m3⟩
    · obtain ⟨y, k1, _⟩ := cas k x hx
      rw [hbx] at hb
      exact h.xs.box k y g k1 hg b q hb he
    · obtain ⟨y, k1, _⟩ := cas k x hx
      obtain ⟨q1, q2⟩ := ownlt l z g hl' hz hgz
      exact h.xs.own k y g k1 hg l z q1 q2 hgz
    · obtain ⟨y, k1, _⟩ := cas k x hx
      obtain ⟨y', k1', _⟩ := cas k' x' hx'
      exact h.xs.dis k y k' y' g k1 k1' hg hg'
    · rw [hxb] at hb
      obtain ⟨cells, e, k1, k2, k3, k4, k5⟩ := h.xs.xb b t q hb
      have hlt := (Array.getElem?_eq_some_iff.1 k1).1
      refine ⟨cells, e, (hk _ hlt (fun hg => (h.xs.xbox b t q hb).2.2 r d hr hg)).trans k1, k2, k3, (hl _ hlt).trans k4, fun k p ho => ?_⟩
      obtain ⟨x, m1, m2, m3⟩ := k5 k p ho
      by_cases e : k = r
      · subst e
        rw [hr] at m1; injection m1 with m1; subst m1
        exact ⟨d', hior, by rw [hty]; exact m2, by rw [hty]; exact m3⟩
      · exact ⟨x, by rw [hio k e]; exact m1, m2, m3⟩
    · rw [hxb] at hb
      obtain ⟨k1, k2, k3⟩ := h.xs.xbox b t q hb
      refine ⟨fun c x hc => by rw [hbx] at hc; exact k1 c x hc, fun l z hl' hz hg => ?_, fun k x hx hg => ?_⟩
      · obtain ⟨q1, q2⟩ := ownlt l z _ hl' hz hg
        exact k2 l z q1 q2 hg
      · obtain ⟨y, m1, _⟩ := cas k x hx
        exact k3 k y m1 hg
    · rw [hxb] at hb hc
      exact h.xs.xinj b c t q t' q' hb hc he
    · obtain ⟨y, k1, _⟩ := cas 0 x hx
      exact h.xs.fix y k1 hm

/-- a box for a tree's value is made, or filled -/
theorem Sim.setxb (h : Sim w0 lim0 rb n st a w lim β) (hrb : ∀ k, some k = rb → k < w0.heap.size) (dst : Option Tmp) (hd : ∀ d, dst = some d → d < n) {b : Tmp} {ty : Ty} {ro : Option (Tmp × List Nat)} {g : Nat} (av : AV) (v : Value)
    (hnew : st.xb b = none ∨ (∃ o', st.xb b = some (ty, o')) ∧ β.c b = g) (hfresh : st.xb b = none → w.heap.size ≤ g)
    (h1 : w'.os = w.os) (h2 : w'.tape = w.tape) (h3 : w'.output = w.output) (hs : w.heap.size ≤ w'.heap.size) (hk : ∀ k, k < w.heap.size → k ≠ g → w'.heap[k]? = w.heap[k]?)
    (hl : ∀ k, k < w.heap.size → lim' k = lim k) {cells : Array Value} {e0 : TypeId} (hg : w'.heap[g]? = some (.cells cells e0 (0, 0))) (hsz : cells.size = ty.size) (hlg : lim' g = some 0)
    (hro : ∀ r q, ro = some (r, q) → ∃ d, st.io r = some d ∧ typeAt d.1 q = some ty ∧ cells.toList = ((flatV (β.V r)).drop (offs d.1 q)).take ty.size)
    (hval : ∀ d, dst = some d → ERep (apply st { upd0 dst av none with xbw := some (b, ty, ro) }) w' lim' { β with c := fun k => if k = b then g else β.c k } rb av v) :
    Sim w0 lim0 rb n (apply st { upd0 dst av none with xbw := some (b, ty, ro) }) (a.put dst v) w' lim' { β with c := fun k => if k = b then g else β.c k } := by
  have hio : (apply st { upd0 dst av none with xbw := some (b, ty, ro) }).io = st.io := by simp [apply, upd0]
  have hxo : ∀ k, k ≠ b → (apply st { upd0 dst av none with xbw := some (b, ty, ro) }).xb k = st.xb k := fun k hk' => by
    have : Nat.beq k b = false := by
      cases hq : Nat.beq k b with
      | true => exact absurd (nbeq hq) hk'
      | false => rfl
    simp [apply, this]
  have hxn : (apply st { upd0 dst av none with xbw := some (b, ty, ro) }).xb b = some (ty, ro) := by simp [apply]
  have hbx : (apply st { upd0 dst av none with xbw := some (b, ty, ro) }).box = st.box := by simp [apply, upd0]
  have hgt : isTree st β g ∨ w.heap.size ≤ g := by
    rcases hnew with hn | ⟨⟨o', hn⟩, he⟩
    · exact .inr (hfresh hn)
    · exact .inl (.inr ⟨b, ty, o', hn, he.symm⟩)
  have hbase : w0.heap.size ≤ g := by
    rcases hnew with hn | ⟨⟨o', hn⟩, he⟩
    · exact Nat.le_trans h.grow.size (hfresh hn)
    · obtain ⟨_, _, _, _, k3, _⟩ := h.xs.xb b ty o' hn; omega
  have noroot : ∀ r d, st.io r = some d → ¬ β.B r g := by
    intro r d hr hgr
    rcases hnew with hn | ⟨⟨o', hn⟩, he⟩
    · have := (h.xs.io r d hr).2.lt g hgr; have := hfresh hn; omega
    · exact (h.xs.xbox b ty o' hn).2.2 r d hr (by rw [he]; exact hgr)
  have nobox : ∀ c d, st.box c = some d → β c ≠ g := by
    intro c d hc he
    rcases hgt with ht | ht
    · exact h.xs.offb hc (by rw [he]; exact ht)
    · obtain ⟨cs, e, k1, _⟩ := h.box c d hc
      have := (Array.getElem?_eq_some_iff.1 k1).1
      have he : β c = g := he
      omega
  have noown : ∀ l z, st.own l = true → locV st a w β l = some z → blockOf z ≠ some g := by
    intro l z hl' hz hgz
    rcases hgt with ht | ht
    · exact h.xs.off hl' hz hgz ht
    · have := (h.lt hl' hz hgz).1; omega
  have other : ∀ c t o', c ≠ b → st.xb c = some (t, o') → β.c c ≠ g := by
    intro c t o' hcb hc he
    rcases hnew with hn | ⟨⟨o2, hn⟩, he2⟩
    · obtain ⟨cs, e, k1, _⟩ := h.xs.xb c t o' hc
      have := (Array.getElem?_eq_some_iff.1 k1).1
      have := hfresh hn
      have : β.c c < w.heap.size := by assumption
      omega
    · exact hcb (h.xs.xinj c b t o' ty o2 hc hn (he.trans he2.symm))
  refine h.treew hrb { upd0 dst av none with xbw := some (b, ty, ro) } v hd rfl rfl rfl rfl rfl h1 h2 h3 hs (fun k => k = g ∧ isTree st β g) (fun k hk' => by rw [hk'.1]; exact hk'.2)
    (fun k hk' hn => hk k hk' (fun e => by
      rcases hgt with ht | ht
      · exact hn ⟨e, ht⟩
      · omega)) hl rfl hval (fun r x hr => ⟨x, by rw [hio]; exact hr, rfl, rfl⟩) (fun c t o' hc => ?_) (fun hst => ?_)
  · by_cases e : c = b
    · subst e
      rcases hnew with hn | ⟨⟨o2, hn⟩, he⟩
      · rw [hn] at hc; cases hc
      · rw [hn] at hc; injection hc with hc; injection hc with e1 e2; subst e1
        exact ⟨⟨ro, hxn⟩, by simp [he]⟩
    · exact ⟨⟨o', by rw [hxo c e]; exact hc⟩, by simp [e]⟩
  · have ownlt : ∀ l z g', (apply st { upd0 dst av none with xbw := some (b, ty, ro) }).own l = true → locV (apply st { upd0 dst av none with xbw := some (b, ty, ro) }) (a.put dst v) w' { β with c := fun k => if k = b then g else β.c k } l = some z → blockOf z = some g' → st.own l = true ∧ locV st a w β l = some z := by
      intro l z g' hl' hz hg'
      have ho := own_none (u := { upd0 dst av none with xbw := some (b, ty, ro) }) rfl rfl rfl hl'
      replace hz := (hst l ho hl').symm.trans hz
      exact ⟨ho, hz⟩
    have old : ∀ k x g', st.io k = some x → β.B k g' → g' < w.heap.size := fun k x g' hx hg' => (h.xs.io k x hx).2.lt g' hg'
    refine ⟨fun k x hx => ?_, fun k x g' hx hg' => ?_, fun k x g' hx hg' c q hb he => ?_, fun k x g' hx hg' l z hl' hz hgz => ?_, fun k x k' x' g' hx hx' hg' hg2 => ?_, fun c t q hb => ?_, fun c t q hb => ?_, fun c c' t q t' q' hb hc he => ?_, fun x hx hm => ?_⟩
    · rw [hio] at hx
      obtain ⟨m1, m2⟩ := h.xs.io k x hx
      exact ⟨m1, m2.keep fun g' hg' => hk g' (old k x g' hx hg') (fun e => noroot k x hx (by rw [← e]; exact hg'))⟩
    · rw [hio] at hx
      obtain ⟨m1, m2, m3⟩ := h.xs.base k x g' hx hg'
      exact ⟨m1, m2, (hl g' (old k x g' hx hg')).trans m3⟩
    · rw [hio] at hx; rw [hbx] at hb
      exact h.xs.box k x g' hx hg' c q hb he
    · rw [hio] at hx
      obtain ⟨q1, q2⟩ := ownlt l z g' hl' hz hgz
      exact h.xs.own k x g' hx hg' l z q1 q2 hgz
    · rw [hio] at hx hx'
      exact h.xs.dis k x k' x' g' hx hx' hg' hg2
    · by_cases e : c = b
      · subst e
        rw [hxn] at hb; injection hb with hb; injection hb with e1 e2; subst e1; subst e2
        simp only [if_true]
        refine ⟨cells, e0, hg, hsz, hbase, hlg, fun r p hrp => ?_⟩
        obtain ⟨x, m1, m2, m3⟩ := hro r p hrp
        exact ⟨x, by rw [hio]; exact m1, m2, m3⟩
      · rw [hxo c e] at hb
        simp only [e, if_false]
        obtain ⟨cs, e1, k1, k2, k3, k4, k5⟩ := h.xs.xb c t q hb
        have hlt := (Array.getElem?_eq_some_iff.1 k1).1
        refine ⟨cs, e1, (hk _ hlt (other c t q e hb)).trans k1, k2, k3, (hl _ hlt).trans k4, fun r p hrp => ?_⟩
        obtain ⟨x, m1, m2, m3⟩ := k5 r p hrp
        exact ⟨x, by rw [hio]; exact m1, m2, m3⟩
    · by_cases e : c = b
      · subst e
        simp only [if_true]
        refine ⟨fun k x hx he => ?_, fun l z hl' hz hgz => ?_, fun k x hx hgk => ?_⟩
        · rw [hbx] at hx; exact nobox k x hx he
        · obtain ⟨q1, q2⟩ := ownlt l z _ hl' hz hgz
          exact noown l z q1 q2 hgz
        · rw [hio] at hx; exact noroot k x hx hgk
      · rw [hxo c e] at hb
        simp only [e, if_false]
        obtain ⟨k1, k2, k3⟩ := h.xs.xbox c t q hb
        refine ⟨fun k x hx => ?_, fun l z hl' hz hgz => ?_, fun k x hx => ?_⟩
        · rw [hbx] at hx; exact k1 k x hx
        · obtain ⟨q1, q2⟩ := ownlt l z _ hl' hz hgz
          exact k2 l z q1 q2 hgz
        · rw [hio] at hx; exact k3 k x hx
    · by_cases e : c = b <;> by_cases e' : c' = b
      · rw [e, e']
      · subst e
        rw [hxo c' e'] at hc
        simp only [if_true, e', if_false] at he
        exact absurd he.symm (other c' t' q' e' hc)
      · subst e'
        rw [hxo c e] at hb
        simp only [if_true, e, if_false] at he
        exact absurd he (other c t q e hb)
      · rw [hxo c e] at hb
        rw [hxo c' e'] at hc
        simp only [e, e', if_false] at he
        exact h.xs.xinj c c' t q t' q' hb hc he
    · rw [hio] at hx
      exact h.xs.fix x hx hm
end
end Go.Den
