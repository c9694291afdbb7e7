/- A region whose order is drawn: every order comes to the same. -/
import Derived.Test.YtbfndjfjkkfaeaaXDenU
set_option linter.unusedVariables false
set_option linter.unusedSimpArgs false
namespace Go.Den
section
variable {P : Program} {tab : Tab} {G : Gam} {w0 : Base} {lim0 : Lim} {rb : Option Nat} {n : Nat}
variable {st st' : St} {a : Act} {w : World} {lim : Lim} {β : Mp}

theorem bget_bor : ∀ {k : Nat} {xs ys : List Bool}, bget k (bor xs ys) = true → bget k xs = true ∨ bget k ys = true
  | _, [], _, h => .inr h
  | 0, true :: _, [], _ => .inl rfl
  | 0, false :: _, [], h => by cases h
  | _ + 1, _ :: _, [], h => .inl h
  | 0, x :: xs, y :: ys, h => by
    cases x with
    | true => exact .inl rfl
    | false => exact .inr h
  | k + 1, x :: xs, y :: ys, h => bget_bor (k := k) (xs := xs) (ys := ys) h
theorem bget_bset : ∀ {k m : Nat} {xs : List Bool}, bget k (bset m xs) = true → k = m ∨ bget k xs = true
  | 0, 0, _, _ => .inl rfl
  | k + 1, 0, [], h => by cases k <;> cases h
  | k + 1, 0, _ :: _, h => .inr h
  | 0, m + 1, [], h => by cases h
  | 0, m + 1, _ :: _, h => .inr h
  | k + 1, m + 1, [], h => by
    rcases bget_bset (k := k) (m := m) (xs := []) h with h | h
    · exact .inl (by rw [h])
    · cases k <;> cases h
  | k + 1, m + 1, _ :: xs, h => by
    rcases bget_bset (k := k) (m := m) (xs := xs) h with h | h
    · exact .inl (by rw [h])
    · exact .inr h
theorem bget_maskOf {acc : List (List Bool)} {k : Nat} : ∀ {es : List Edge}, bget k (maskOf acc es) = true → ∃ e ∈ es, bindsAny e = true ∧ (k = e.on ∨ bget k (nthM e.on acc) = true)
  | [], h => by cases k <;> cases h
  | e :: es, h => by
    simp only [maskOf] at h
    cases hb : bindsAny e with
    | true =>
      rw [hb] at h
      rcases bget_bor h with h | h
      · exact ⟨e, by simp, hb, bget_bset h⟩
      · obtain ⟨e', h1, h2⟩ := bget_maskOf h
        exact ⟨e', by simp [h1], h2⟩
    | false =>
      rw [hb] at h
      obtain ⟨e', h1, h2⟩ := bget_maskOf h
      exact ⟨e', by simp [h1], h2⟩
theorem nthM_app : ∀ {acc more : List (List Bool)} {k j : Nat}, bget j (nthM k acc) = true → nthM k (acc ++ more) = nthM k acc
  | [], _, k, j, h => by cases k <;> cases j <;> cases h
  | m :: acc, more, 0, _, _ => rfl
  | m :: acc, more, k + 1, j, h => nthM_app (acc := acc) (k := k) (j := j) h
theorem nthM_at : ∀ {acc more : List (List Bool)} {m : List Bool}, nthM acc.length (acc ++ m :: more) = m
  | [], _, _ => rfl
  | _ :: acc, more, m => nthM_at (acc := acc)
theorem masks_ext : ∀ {os : List Oper} {acc : List (List Bool)}, ∃ more, masks os acc = acc ++ more
  | [], acc => ⟨[], by simp [masks]⟩
  | o :: os, acc => by
    obtain ⟨more, h⟩ := masks_ext (os := os) (acc := acc ++ [maskOf acc o.after.toList])
    exact ⟨maskOf acc o.after.toList :: more, by simp [masks, h]⟩
/-- what comes before an operation in every order: an edge leads to it -/
theorem masks_spec : ∀ {os : List Oper} {acc : List (List Bool)} {i k : Nat} {o : Oper}, os[i]? = some o → bget k (nthM (acc.length + i) (masks os acc)) = true →
    ∃ e ∈ o.after.toList, bindsAny e = true ∧ (k = e.on ∨ bget k (nthM e.on (masks os acc)) = true)
  | [], _, _, _, _, h, _ => by cases h
  | x :: os, acc, 0, k, o, h, hb => by
    injection h with h; subst h
    simp only [masks] at hb ⊢
    obtain ⟨more, hm⟩ := masks_ext (os := os) (acc := acc ++ [maskOf acc x.after.toList])
    rw [hm] at hb ⊢
    rw [List.append_assoc] at hb ⊢
    have : nthM (acc.length + 0) (acc ++ ([maskOf acc x.after.toList] ++ more)) = maskOf acc x.after.toList := nthM_at
    rw [this] at hb
    obtain ⟨e, h1, h2, h3⟩ := bget_maskOf hb
    refine ⟨e, h1, h2, h3.imp id fun h => ?_⟩
    rw [nthM_app h]; exact h
  | x :: os, acc, i + 1, k, o, h, hb => by
    simp only [masks] at hb ⊢
    refine masks_spec (os := os) (i := i) (by simpa using h) ?_
    have : (acc ++ [maskOf acc x.after.toList]).length + i = acc.length + (i + 1) := by simp; omega
    rw [this]; exact hb

theorem edgesBack_spec {i : Nat} : ∀ {es : List Edge}, edgesBack i es = true → ∀ e ∈ es, bindsAny e = true → e.on < i
  | [], _, e, he, _ => by cases he
  | x :: es, h, e, he, hb => by
    simp only [edgesBack] at h
    cases hq : cnd (bindsAny x) (Nat.blt x.on i) true with
    | false => rw [hq] at h; cases h
    | true =>
      rw [hq] at h
      rcases List.mem_cons.1 he with rfl | he
      · rw [hb] at hq; simpa [Nat.blt_eq] using hq
      · exact edgesBack_spec h e he hb
theorem edgesOk_spec : ∀ {os : List Oper} {i j : Nat} {o : Oper}, edgesOk os i = true → os[j]? = some o → ∀ e ∈ o.after.toList, bindsAny e = true → e.on < i + j
  | [], _, _, _, _, h => by cases h
  | x :: os, i, j, o, h, hj => by
    simp only [edgesOk] at h
    cases hq : edgesBack i x.after.toList with
    | false => rw [hq] at h; cases h
    | true =>
      rw [hq] at h
      cases j with
      | zero => injection hj with hj; subst hj; exact edgesBack_spec hq
      | succ j =>
        have := edgesOk_spec (os := os) (i := i + 1) (j := j) h (by simpa using hj)
        intro e he hb
        have := this e he hb
        omega

theorem pairOk_spec {m : List Bool} {f : FP} : ∀ {gs : List FP} {j : Nat}, pairOk m f gs j = true → ∀ (k : Nat) g, gs[k]? = some g → bget (j + k) m = true ∨ indep g f = true
  | [], _, _, _, _, h => by cases h
  | x :: gs, j, h, k, g, hk => by
    simp only [pairOk] at h
    cases hq : cnd (bget j m) true (indep x f) with
    | false => rw [hq] at h; cases h
    | true =>
      rw [hq] at h
      cases k with
      | zero =>
        injection hk with hk; subst hk
        rw [Nat.add_zero]
        cases hb : bget j m with
        | true => exact .inl rfl
        | false => rw [hb] at hq; exact .inr hq
      | succ k =>
        have := pairOk_spec (j := j + 1) h k g (by simpa using hk)
        rwa [Nat.add_assoc, Nat.add_comm 1 k] at this
theorem pairsOk_spec {ms : List (List Bool)} : ∀ {fs seen : List FP}, pairsOk ms seen fs seen.length = true → ∀ (k j : Nat) g f, k < j → (seen ++ fs)[k]? = some g → (seen ++ fs)[j]? = some f → seen.length ≤ j → bget k (nthM j ms) = true ∨ indep g f = true
  | [], seen, _, k, j, g, f, _, _, hj, hl => by
    rw [List.append_nil] at hj
    have := (List.getElem?_eq_some_iff.1 hj).1; omega
  | x :: fs, seen, h, k, j, g, f, hkj, hk, hj, hl => by
    simp only [pairsOk] at h
    cases hq : pairOk (nthM seen.length ms) x seen 0 with
    | false => rw [hq] at h; cases h
    | true =>
      rw [hq] at h
      have h : pairsOk ms (seen ++ [x]) fs (seen ++ [x]).length = true := by simpa using h
      by_cases he : j = seen.length
      · subst he
        have hf : f = x := by
          rw [List.getElem?_append_right (Nat.le_refl _)] at hj
          simpa using hj.symm
        subst hf
        rw [List.getElem?_append_left hkj] at hk
        have := pairOk_spec hq k g hk
        rwa [Nat.zero_add] at this
      · refine pairsOk_spec h k j g f hkj (by simpa using hk) (by simpa using hj) (by simp; omega)

theorem binds_any (e : Edge) : Region.binds .any e = bindsAny e := by
  unfold Region.binds bindsAny
  cases e.ground <;> rfl
theorem ready_mem {ops : Array Oper} {L : Array Bool} {i : Nat} (h : i ∈ Region.ready .any ops L) : i < ops.size ∧ L.getD i true = false ∧ ∃ o, ops[i]? = some o ∧ ∀ e ∈ o.after.toList, bindsAny e = true → L.getD e.on false = true := by
  unfold Region.ready at h
  simp only [List.mem_filter, List.mem_range, Bool.and_eq_true] at h
  obtain ⟨h1, h2, h3⟩ := h
  refine ⟨h1, by simpa using h2, ops[i], by simp [h1], fun e he hb => ?_⟩
  have : (ops[i]?).map (·.after.all fun e => !Region.binds .any e || L.getD e.on false) = some (ops[i].after.all fun e => !Region.binds .any e || L.getD e.on false) := by simp [h1]
  rw [this] at h3
  simp only [Option.getD_some] at h3
  rw [← Array.all_toList, List.all_eq_true] at h3
  have := h3 e he
  rw [binds_any, hb] at this
  simpa using this
theorem ready_of {ops : Array Oper} {L : Array Bool} {i : Nat} {o : Oper} (h1 : L.getD i true = false) (h2 : ops[i]? = some o) (h3 : ∀ e ∈ o.after.toList, bindsAny e = true → L.getD e.on false = true) : i ∈ Region.ready .any ops L := by
  unfold Region.ready
  have hi := (Array.getElem?_eq_some_iff.1 h2).1
  simp only [List.mem_filter, List.mem_range, Bool.and_eq_true]
  refine ⟨hi, by simpa using h1, ?_⟩
  rw [h2]
  simp only [Option.map_some, Option.getD_some]
  rw [← Array.all_toList, List.all_eq_true]
  intro e he
  rw [binds_any]
  cases hb : bindsAny e with
  | false => rfl
  | true => simpa using h3 e he hb

/-- what is still to be done -/
structure Left (ops : Array Oper) (ms : List (List Bool)) (L : Array Bool) (xs : List Item) : Prop where
  size : L.size = ops.size
  at' : ∀ x ∈ xs, ops[x.i]? = some x.o
  inc : xs.Pairwise fun x y => x.i < y.i
  pairs : xs.Pairwise fun x y => bget x.i (nthM y.i ms) = true ∨ indep x.fp y.fp = true
  all : ∀ i, i < ops.size → L.getD i true = false → ∃ x ∈ xs, x.i = i
  not : ∀ x ∈ xs, L.getD x.i true = false
  closed : ∀ (i k : Nat), L.getD i false = true → bget k (nthM i ms) = true → L.getD k false = true

theorem getD_set {L : Array Bool} {i j : Nat} {d : Bool} : (L.setIfInBounds i true).getD j d = if i = j ∧ j < L.size then true else L.getD j d := by
  rw [Array.getD_eq_getD_getElem?, Array.getD_eq_getD_getElem?, Array.getElem?_setIfInBounds]
  by_cases h : i = j
  · subst h
    by_cases hl : i < L.size
    · simp [hl]
    · simp [hl, Array.getElem?_eq_none (Nat.le_of_not_lt hl)]
  · simp [h]

theorem any_sound (hT : TabOk P tab) (hG : GamOk P G) {ops : Array Oper} {ms : List (List Bool)} (hms : ms = masks ops.toList []) (hE : edgesOk ops.toList 0 = true) {Q : Exit → Act → World → Prop} (hrb : ∀ k, some k = rb → k < w0.heap.size)
    (hd : ∀ o ∈ ops.toList, ∀ d, o.dst = some d → d < n) (hQ : ∀ a' w' lim' β', Sim w0 lim0 rb n st' a' w' lim' β' → Q .normal a' w') :
    ∀ (fuel : Nat) (L : Array Bool) (xs : List Item) (st : St) (a : Act) (w : World) (lim : Lim) (β : Mp), xs.length = fuel → Left ops ms L xs → RunI tab G ops.toList xs st st' → Sim w0 lim0 rb n st a w lim β → wpAny P .any ops Q fuel L a w := by
  intro fuel
  induction fuel with
  | zero =>
    intro L xs st a w lim β hl hx hr h
    have : xs = [] := List.length_eq_zero_iff.1 hl
    subst this
    have hr : st = st' := hr
    subst hr
    refine ⟨?_, hQ _ _ _ _ h⟩
    cases hq : Region.ready .any ops L with
    | nil => rfl
    | cons i is =>
      obtain ⟨h1, h2, _⟩ := ready_mem (i := i) (by rw [hq]; simp)
      obtain ⟨x, hx', _⟩ := hx.all i h1 h2
      cases hx'
  | succ fuel ih =>
    intro L xs st a w lim β hl hx hr h
    refine ⟨fun hnil => ?_, fun i hi => ?_⟩
    · -- the first that is left is ready
      exfalso
      cases xs with
      | nil => simp at hl
      | cons x xs =>
        have : x.i ∈ Region.ready .any ops L := by
          refine ready_of (hx.not x (by simp)) (hx.at' x (by simp)) fun e he hb => ?_
          have hop : ops.toList[x.i]? = some x.o := by simpa using hx.at' x (by simp)
          have hlt := edgesOk_spec hE hop e he hb
          rw [Nat.zero_add] at hlt
          have hxs := (Array.getElem?_eq_some_iff.1 (hx.at' x (by simp))).1
          have hsz : e.on < L.size := by rw [hx.size]; omega
          cases hq : L.getD e.on true with
          | true =>
            rw [Array.getD_eq_getD_getElem?, Array.getElem?_eq_getElem hsz] at hq ⊢
            simpa using hq
          | false =>
            obtain ⟨y, hy, hyi⟩ := hx.all e.on (by rw [← hx.size]; exact hsz) hq
            rcases List.mem_cons.1 hy with rfl | hy
            · omega
            · have := (List.pairwise_cons.1 hx.inc).1 y hy
              omega
        rw [hnil] at this; cases this
    · obtain ⟨h1, h2, o, h3, h4⟩ := ready_mem hi
      obtain ⟨y, hy, hyi⟩ := hx.all i h1 h2
      have hyo : y.o = o := by
        have := hx.at' y hy
        rw [hyi, h3] at this; injection this with this; exact this.symm
      obtain ⟨pre, post, rfl⟩ := List.append_of_mem hy
      -- what comes before it in every order is done
      have hmask : ∀ k, bget k (nthM i ms) = true → L.getD k false = true := by
        intro k hk
        rw [hms] at hk
        have hop : ops.toList[i]? = some o := by simpa using h3
        obtain ⟨e, he, hb, hk'⟩ := masks_spec (acc := []) hop (by simpa using hk)
        have hon := h4 e he hb
        rcases hk' with rfl | hk'
        · exact hon
        · exact hx.closed e.on k hon (by rw [hms]; exact hk')
      have hpre : ∀ x ∈ pre, indep x.fp y.fp = true := by
        intro x hxm
        have hp := (List.pairwise_append.1 hx.pairs).2.2 x hxm y (by simp)
        rcases hp with hp | hp
        · exfalso
          rw [hyi] at hp
          have h5 := hmask _ hp
          have h6 := hx.not x (by simp [hxm])
          have : x.i < L.size := by rw [hx.size]; exact (Array.getElem?_eq_some_iff.1 (hx.at' x (by simp [hxm]))).1
          rw [Array.getD_eq_getD_getElem?, Array.getElem?_eq_getElem this] at h5 h6
          simp at h5 h6
          rw [h5] at h6; cases h6
        · exact hp
      obtain ⟨r1, r2⟩ := runI_bubble hpre hr
      have hL : Left ops ms (L.setIfInBounds i true) (pre ++ post) := by
        refine ⟨by simp [hx.size], fun x hxm => hx.at' x (by simp at hxm ⊢; rcases hxm with h | h <;> simp [h]), ?_, ?_, fun j hj hq => ?_, fun x hxm => ?_, fun j k hj hk => ?_⟩
        · exact List.Pairwise.sublist (List.Sublist.append (List.Sublist.refl _) (List.sublist_cons_self _ _)) hx.inc
        · exact List.Pairwise.sublist (List.Sublist.append (List.Sublist.refl _) (List.sublist_cons_self _ _)) hx.pairs
        · rw [getD_set] at hq
          split at hq
          · cases hq
          · rename_i hne
            obtain ⟨x, hxm, hxi⟩ := hx.all j hj hq
            refine ⟨x, ?_, hxi⟩
            simp only [List.mem_append, List.mem_cons] at hxm ⊢
            rcases hxm with h | h | h
            · exact .inl h
            · exfalso; subst h; exact hne ⟨by omega, by rw [hx.size]; exact hj⟩
            · exact .inr h
        · rw [getD_set]
          have hlt : x.i ≠ i := by
            intro he
            rcases List.mem_append.1 hxm with h | h
            · have := (List.pairwise_append.1 hx.inc).2.2 x h y (by simp); omega
            · have := (List.pairwise_cons.1 (List.pairwise_append.1 hx.inc).2.1).1 x h; omega
          rw [if_neg (fun hc => hlt hc.1.symm)]
          exact hx.not x (by simp at hxm ⊢; rcases hxm with h | h <;> simp [h])
        · rw [getD_set] at hj ⊢
          split
          · rfl
          · split at hj
            · rename_i hij
              rw [← hij.1] at hk
              exact hmask k hk
            · exact hx.closed j k hj hk
      unfold wpOp
      rw [h3]
      simp only []
      have hyu : oneU tab G ops.toList o st = some (y.u, y.rs) := by rw [← hyo]; exact r1
      have hdo : ∀ d, o.dst = some d → d < n := hd o (by have := Array.mem_of_getElem? h3; simpa using this)
      have := one_sound (ops := ops) hT hG h hrb hdo hyu (wpAny P .any ops Q fuel (L.setIfInBounds i true)) Q
        (fun a' w' lim' β' hs => ih _ _ _ _ _ _ _ (by simp at hl ⊢; omega) hL r2 hs)
      split
      · rename_i hw; rw [if_pos hw] at this; exact .inl this
      · rename_i hw; rw [if_neg hw] at this; exact this

theorem Sim.drew (h : Sim w0 lim0 rb n st a w lim β) : Sim w0 lim0 rb n st a { w with drawn := w.drawn + 1 } lim β := by
  have he : Ext w lim { w with drawn := w.drawn + 1 } lim := ⟨Nat.le_refl _, fun _ _ _ _ _ h => h, fun _ _ _ h => h⟩
  have locv : ∀ l, locV st a { w with drawn := w.drawn + 1 } β l = locV st a w β l := fun l => by cases l <;> rfl
  have tip : ∀ {b s v}, Tip w lim b s v → Tip { w with drawn := w.drawn + 1 } lim b s v := fun h => h
  refine ⟨h.size, h.defers, ⟨h.grow.os, h.grow.tape, h.grow.output, h.grow.size, h.grow.block⟩, h.limOld, fun t => ?_, fun b d hb => ?_, h.inj, fun l hl => ?_, fun l l' v v' g h1 h2 h3 h4 => ?_, fun t l h1 h2 => ?_, fun d hd => ?_, ?_⟩
  · have := h.env t
    cases hav : (st.env t).av <;> rw [hav] at this
    case any => trivial
    case skp => exact this
    case nil => exact this
    case dat ty x => exact TRep.mono he this
    case cel => exact this
    case ref ty x =>
      obtain ⟨b, o, cs, h1, h2, h3, h4, h5⟩ := this
      exact ⟨b, o, cs, h1, h2, h3.mono he, h4, h5⟩
    case tup ty x =>
      obtain ⟨vs, h1, h2⟩ := this
      exact ⟨vs, h1, h2.mono he⟩
    case rdr => exact this
    case xf => exact this
    case xp => exact this
    case xt => exact this
    case cx => exact this
  · obtain ⟨cells, e, h1, h2, h3, h4⟩ := h.box b d hb
    exact ⟨cells, e, h1, h2.mono he, h3, h4⟩
  · obtain ⟨e, v, h1, h2, h3, h4⟩ := h.own l hl
    exact ⟨e, v, h1, by rw [locv]; exact h2, tip h3, h4⟩
  · rw [locv] at h3 h4
    exact h.sep l l' v v' g h1 h2 h3 h4
  · rw [locv]; exact h.tag t l h1 h2
  · obtain ⟨b, cells, e, h1, h2, h3, h4, h5⟩ := h.rd d hd
    exact ⟨b, cells, e, h1, h2, h3, h4.mono he, h5⟩
  · exact h.xs.keep rfl rfl (fun _ _ _ => ⟨rfl, rfl⟩) (fun _ _ _ _ => rfl) (fun _ _ => ⟨rfl, rfl⟩) (fun b d hb => h.xs.offb hb) (fun l v g hl hv hg => h.xs.off hl (by rw [← locv]; exact hv) hg)

theorem draw_sound (hT : TabOk P tab) (hG : GamOk P G) (hm : P.follows .mixedOrders = true) {id : Nat} {ops : Array Oper} {Q : Exit → Act → World → Prop} (hrb : ∀ k, some k = rb → k < w0.heap.size)
    (hd : ∀ o ∈ ops.toList, ∀ d, o.dst = some d → d < n) {fs : List FP} (hr : runT tab G ops.toList ops.toList st = some (st', fs)) (hE : edgesOk ops.toList 0 = true) (hP : pairsOk (masks ops.toList []) [] fs 0 = true)
    (h : Sim w0 lim0 rb n st a w lim β) (hQ : ∀ a' w' lim' β', Sim w0 lim0 rb n st' a' w' lim' β' → Q .normal a' w') : (Code.region id ops true).wp P Q a w := by
  refine wp_region_any hm ?_
  obtain ⟨xs, k1, k2, k3, k4⟩ := runT_items (i := 0) hr
  have hlen : xs.length = ops.size := by have := congrArg List.length k3; simpa using this
  have hi : ∀ (j : Nat) (x : Item), xs[j]? = some x → x.i = j := by
    intro j x hj
    have h1 : (xs.map (·.i))[j]? = some x.i := by simp [hj]
    rw [k4] at h1
    have hlt := (List.getElem?_eq_some_iff.1 h1).1
    simp at hlt
    rw [List.getElem?_range' (by simpa using hlt)] at h1
    injection h1 with h1; omega
  have hpw : ∀ (R : Item → Item → Prop), (∀ (k j : Nat) x y, k < j → xs[k]? = some x → xs[j]? = some y → R x y) → xs.Pairwise R := by
    intro R hR
    rw [List.pairwise_iff_getElem]
    intro i j hi' hj' hij
    exact hR i j _ _ hij (List.getElem?_eq_getElem hi') (List.getElem?_eq_getElem hj')
  refine any_sound hT hG rfl hE hrb hd hQ ops.size _ xs _ _ _ _ _ hlen ⟨by simp, fun x hx => ?_, ?_, ?_, fun i hi' _ => ?_, fun x hx => ?_, fun i k hL _ => ?_⟩ k1 h.drew
  · obtain ⟨j, hj⟩ := List.getElem?_of_mem hx
    have h1 : (xs.map (·.o))[j]? = some x.o := by simp [hj]
    rw [k3] at h1
    rw [hi j x hj]
    simpa using h1
  · exact hpw _ fun k j x y hkj hx hy => by rw [hi k x hx, hi j y hy]; exact hkj
  · refine hpw _ fun k j x y hkj hx hy => ?_
    rw [hi k x hx, hi j y hy]
    have hfs : ∀ (j : Nat) x, xs[j]? = some x → fs[j]? = some x.fp := fun j x hj => by rw [← k2]; simp [hj]
    exact pairsOk_spec (seen := []) hP k j x.fp y.fp hkj (by simpa using hfs k x hx) (by simpa using hfs j y hy) (by simp)
  · have : i < xs.length := by omega
    exact ⟨xs[i], by simp, hi i _ (List.getElem?_eq_getElem this)⟩
  · obtain ⟨j, hj⟩ := List.getElem?_of_mem hx
    have hlt := (List.getElem?_eq_some_iff.1 hj).1
    rw [hi j x hj, Array.getD_eq_getD_getElem?]
    simp [show j < ops.size by omega]
  · exfalso
    rw [Array.getD_eq_getD_getElem?] at hL
    by_cases hlt : i < ops.size <;> simp [hlt] at hL
end
end Go.Den
