/- Trees of one's own: read as texts, made by append. -/
import Derived.Deep.LoopGhost
import Derived.RegionTactic
import Derived.Tactics
import Derived.Test.YtojleoiiijlhaaaGreatXDm2
set_option linter.unusedVariables false
set_option linter.unusedSimpArgs false
namespace Go.Den
section
variable {P : Program} {tab : Tab} {G : Gam} {w0 : Base} {lim0 : Lim} {rb : Option Nat} {n : Nat}
variable {st st' : St} {a : Act} {w w' : World} {lim lim' : Lim} {β : Mp} {o : Oper} {c : Comp}

theorem ok_convX (hT : TabOk P tab) (h : Sim w0 lim0 rb n st a w lim β) (hd : ∀ d, o.dst = some d → d < n) {s t : TypeId} {x : Operand} {r : Tmp} {p : List Nat} (hop : o.op = .convert s t x) (hxe : (st.ent x).av = .xf r p)
    (hc : stConvX tab o s t r p st = some c) (ho : c.out st = some st') : OpOk P w0 lim0 rb n o st' a w := by
  unfold stConvX at hc
  split at hc
  · rename_i xs hs ht hy
    change List Int at xs
    injection hc with hc; subst hc
    obtain ⟨_, rfl⟩ := out_ret ho
    obtain ⟨el, h1, h1'⟩ := elemTy hT hs
    have h1' : P.underlying el = some (.int .u8) := h1'.desc
    have h2 : P.underlying t = some .string := (hT _ _ ht).desc
    have hax := argX_rep h x
    rw [hxe] at hax
    simp only [argX, hy] at hax
    obtain ⟨b, cc, hv, hle, hsr⟩ := slice_rep hax
    refine .value (v := .string ⟨⟨byteList xs⟩⟩) ?_ (h.plain _ _ _ hd mk_str)
    have hrun : (convert s t (.slice b xs.length cc)).run P w = .ok (.string ⟨⟨byteList xs⟩⟩) w := by
      rcases hsr with hsr | ⟨bb, oo, rfl, hb, hu, hcell⟩
      · subst hsr
        cases b with
        | none => rw [run_convert_bytes_nil w s el h1 h1' _ _ t h2]; rfl
        | some b => simp [convert, underlying, h1, h2, h1', Conv.bytesToString, loadCells]; rfl
      · rw [run_convert_bytes_arg w s el h1 h1' bb oo xs.length cc xs rfl ?_ t h2, strOf_bytes]
        intro i hi
        obtain ⟨cs, hcs, hj⟩ := hcell i _ (List.getElem?_eq_getElem hi)
        have hcs : cs = [.int .u8 xs[i]] := hcs
        subst hcs
        have := hj 0 _ rfl
        simpa [Ty.size, hi] using this
    have hv' : a.eval x = .slice b xs.length cc := hv
    simp [execOp, hop, hv', hrun]
  · cases hc

theorem apply_drop {d : Tmp} {av : AV} {xw : Option (Tmp × Dat)} (ls : List Loc) (st : St) :
    apply (apply st { upd0 none .any none with takes := ls }) { upd0 (some d) av none with xw := xw } = apply st { upd0 (some d) av none with takes := ls, xw := xw } := by
  refine St.ext' ?_ rfl ?_ rfl rfl rfl rfl rfl
  · funext t
    simp only [apply, upd0]
    congr 1
    cases hq : (st.env t).tag with
    | none => rfl
    | some km => obtain ⟨k, m⟩ := km; cases m <;> rfl
  · funext l
    cases l with
    | tmp t p => rfl
    | box b p => rfl

theorem ok_appendX (hT : TabOk P tab) (h : Sim w0 lim0 rb n st a w lim β) (hrb : ∀ k, some k = rb → k < w0.heap.size) (hd : ∀ d, o.dst = some d → d < n) {t : TypeId} {x y : Operand} {cl : Call} (hop : o.op = .call cl) (hcal : cl.callee = .builtin .append) (ha : cl.args = #[x, y]) (hat : cl.argTypes = #[t, t])
    (hc : stAppendX tab o t x y st = some c) (ho : c.out st = some st') : OpOk P w0 lim0 rb n o st' a w := by
  unfold stAppendX at hc
  cases hty : tab t with
  | none => rw [hty] at hc; cases hc
  | some ty =>
    cases ty with
    | slice e =>
      rw [hty] at hc; simp only [] at hc
      split at hc
      · rename_i xs ys ol hx hy hol
        change List e.val at xs
        change List e.val at ys
        split at hc
        · rename_i d hfree hns
          injection hc with hc; subst hc
          obtain ⟨hchk, rfl⟩ := out_ret ho
          have q1 := andB_iff.1 hchk
          have hz0 : (xs.length : Int) = 0 := of_decide_eq_true q1.1
          have hlt : (ys.length : Int) < big := ltI_iff.1 q1.2
          unfold big at hlt
          have hxl : xs.length = 0 := by omega
          have hxs : xs = [] := List.eq_nil_of_length_eq_zero hxl
          obtain ⟨hdst, hfd, _, _, hd0⟩ := free_some hfree
          obtain ⟨el, h1, h2⟩ := elemTy hT hty
          obtain ⟨bx, cx, hvx, hlx, hsx⟩ := slice_rep (st := st) (β := β) (rb := rb) (as_rep hx (h.ent x))
          obtain ⟨by', cy, hvy, hly, hsy⟩ := slice_rep (st := st) (β := β) (rb := rb) (as_rep hy (argX_rep h y))
          have hvx : a.eval x = .slice bx xs.length cx := hvx
          have hvy : a.eval y = .slice by' ys.length cy := hvy
          rw [hxl] at hvx
          have hsy : SRep w (limX st β lim) (CRep w (limX st β lim) e) e.size ys by' := hsy
          obtain ⟨news, hrn, hnc⟩ : ∃ news, RRep w (limX st β lim) e ys news ∧ (ys = [] ∨ ∃ bb oo, by' = some ⟨bb, oo, none⟩ ∧ ∀ k v, news[k]? = some v → w.cell? ⟨bb, oo + k, none⟩ = some v) := by
            rcases hsy with hsy | ⟨bb, oo, rfl, hb, hu, hcell⟩
            · subst hsy; exact ⟨[], RRep.nil e, .inl rfl⟩
            · obtain ⟨L, k1, k2⟩ := SRep_cells hcell
              exact ⟨L, k1, .inr ⟨bb, oo, rfl, k2⟩⟩
          have hcellV : ∀ (i : Nat) (z : e.val), ys[i]? = some z → ∀ j v, (cellsV e z)[j]? = some v → news[i * e.size + j]? = some v := fun i z hz j v hv => by
            obtain ⟨cs, k1, k2⟩ := hrn.2 i z hz
            rw [(CRep_noSl hns).1 k1] at k2
            exact k2 j v hv
          have exec : ∀ {r w2}, (Builtin.append_ #[t, t] o.type #[a.eval x, a.eval y]).run P w = .ok r w2 → (execOp a.eval o).run P w = .ok (.value r) w2 := by
            intro r w2 hr
            have e0 : cl.args.map a.eval = #[a.eval x, a.eval y] := by rw [ha]; simp
            simp only [execOp, hop, resolve, hcal, Sem.run_bind, Sem.run_pure, Result.andThen_ok, invoke, builtin, e0, hat, hr]
          -- first the place is given up
          have h0 : Sim w0 lim0 rb n (apply st { upd0 none .any none with takes := ol.toList }) a w lim β :=
            h.val { upd0 none .any none with takes := ol.toList } undef (fun d hd => by cases hd) rfl rfl trivial (fun _ => .tmp 0 []) (fun p hp => by cases hp) (fun p hp => by cases hp) (fun l hl => by cases hl) (fun l hl => by cases hl)
          have hio0 : (apply st { upd0 none .any none with takes := ol.toList }).io = st.io := rfl
          have fin : ∀ (v : Value) (w2 : World) (l2 : Lim) (B0 C : Nat → Prop), (execOp a.eval o).run P w = .ok (.value v) w2 → w2.os = w.os → w2.tape = w.tape → w2.output = w.output → w.heap.size ≤ w2.heap.size →
              (∀ k, C k → freeB w0 rb (apply st { upd0 none .any none with takes := ol.toList }) a w lim β k ∧ ¬ isTree (apply st { upd0 none .any none with takes := ol.toList }) β k) →
              (∀ k, k < w.heap.size → ¬ C k → w2.heap[k]? = w.heap[k]?) → (∀ k, k < w.heap.size → l2 k = lim k) → XRep w2 (.slice e) ys (flatV v) B0 → (∀ g, B0 g → (w.heap.size ≤ g ∨ C g) ∧ l2 g = some 0) → v = wrapV (.slice e) (flatV v) →
              OpOk P w0 lim0 rb n o (apply st { upd0 (some d) (.xf d []) none with takes := ol.toList, xw := some (d, ⟨.slice e, ys⟩) }) a w := by
            intro v w2 l2 B0 C he m1 m2 m3 m4 hC hk hl hX hB hv
            have := h0.newrootC hrb (hd d hdst) (by rw [hio0]; exact hfd) hd0 ⟨.slice e, ys⟩ (.xf d []) v B0 m1 m2 m3 m4 C hC hk hl hX hB (.inl ⟨rfl, hv⟩)
            rw [apply_drop] at this
            exact OpOk.value (o := o) he (by rw [hdst]; exact this)
          -- a block of its own
          have grow : cx < ys.length → OpOk P w0 lim0 rb n o (apply st { upd0 (some d) (.xf d []) none with takes := ol.toList, xw := some (d, ⟨.slice e, ys⟩) }) a w := by
            intro hg
            have r1 : (Builtin.firstCells e.size 0 (.slice bx 0 cx)).run P w.drew = .ok ([] : List Value).toArray w.drew := by
              have := run_first (P := P) (cc := cx) (w2 := w.drew) (RRep.nil (w := w) (lim := lim) e) (b := bx) (.inl rfl)
              simpa using this
            have r2 := run_first (P := P) (cc := cy) (w2 := w.drew) hrn hnc
            have hrun := run_append_at_new (ty := o.type) h1 h2 (sv := .slice bx 0 cx) rfl r1 r2 (by omega) (by omega)
            simp only [Nat.zero_add] at hrun
            have hge := grownCap_ge w ys.length cx el
            have hz : (zeroCells e).toArray.size = e.size := by simpa using (zero_rep w lim e).length
            refine fin (.slice (some ⟨w.heap.size, 0, none⟩) ys.length (grownCap w ys.length cx el)) (w.drew.alloc (.cells ([] ++ (news ++ (Builtin.zeroCells (zeroCells e).toArray (grownCap w ys.length cx el - ys.length)).toList)).toArray el)) (limSet lim w.heap.size (some 0)) (fun g => g = w.heap.size) (fun _ => False) (exec (by rw [hvx, hvy, hrun])) rfl rfl rfl (by simp) (fun _ hk => hk.elim)
              (fun k hk _ => alloc_old (w := w.drew) _ hk) (fun k hk => by simp [limSet, show k ≠ w.heap.size by omega]) (XRep.mkFlat hns rfl hge ?_ (alloc_new (w := w.drew) _) (fun _ _ hk => by simp at hk) (fun _ => Iff.rfl) (fun j z hj q v hv => ?_))
              (fun g hg => ⟨.inl (by rw [hg]; exact Nat.le_refl _), by simp [limSet, hg]⟩) rfl
            · simp only [List.nil_append, List.size_toArray, List.length_append, Array.length_toList, size_zeroCells, hz, hrn.1]
              rw [← Nat.add_mul]
              exact Nat.mul_le_mul_right _ (by omega)
            · have := hcellV j z hj q v hv
              have hlt := (List.getElem?_eq_some_iff.1 this).1
              simp only [List.nil_append, List.getElem?_toArray]
              rw [List.getElem?_append_left hlt]; exact this
          have nothing : a.eval x = .slice none 0 0 → ys.length = 0 → OpOk P w0 lim0 rb n o (apply st { upd0 (some d) (.xf d []) none with takes := ol.toList, xw := some (d, ⟨.slice e, ys⟩) }) a w := by
            intro hnil hz
            have r2 := run_first (P := P) (cc := cy) (w2 := w) hrn hnc
            rw [hz] at r2
            have hrun := run_append_nothing (ty := o.type) h1 h2 r2
            exact fin (.slice none 0 0) w lim (fun _ => False) (fun _ => False) (exec (by rw [hnil, hvy, hz]; exact hrun)) rfl rfl rfl (Nat.le_refl _) (fun _ hk => hk.elim) (fun _ _ _ => rfl) (fun _ _ => rfl) (.inl ⟨rfl, hz, fun _ hg => hg⟩) (fun _ hg => hg.elim) rfl
          rcases owner_spec h hol hx with ⟨l, rfl, ho1, ho2, ho3⟩ | ⟨rfl, hnil⟩
          · obtain ⟨e', v', g1, g2, g3⟩ := h.own l ho1
            rw [ho3] at g1; injection g1 with g1; subst g1
            rw [ho2] at g2; injection g2 with g2; subst g2
            rcases g3 with g3 | ⟨b, m, cap, arr, el', fr, g3, g5, g6, g7, g8, g9, g10⟩
            · by_cases hz : ys.length = 0
              · exact nothing g3 hz
              · rw [hvx] at g3; injection g3 with k1 k2 k3
                exact grow (by omega)
            · rw [hvx] at g3; injection g3 with k1 k2 k3
              subst k1; subst k2; subst k3
              by_cases hroom : ys.length ≤ cx
              · -- there is room
                have r2 := run_first (P := P) (cc := cy) (w2 := w) hrn hnc
                have hfit : ys.length * e.size ≤ arr.size := Nat.le_trans (Nat.mul_le_mul_right _ hroom) g9
                have hnl := hrn.1
                have hal : arr.toList.length = arr.size := by simp
                obtain ⟨c2, c3, k1, k3⟩ : ∃ c2 c3, arr.toList = [] ++ (c2 ++ c3) ∧ c2.length = news.length := by
                  refine ⟨arr.toList.take news.length, arr.toList.drop news.length, ?_, ?_⟩
                  · rw [List.nil_append, List.take_append_drop]
                  · rw [List.length_take]; omega
                obtain ⟨w', m1, m2⟩ := run_append_at_room (ty := o.type) (s := 0) (sc := cx) (m := ys.length) h1 h2 r2 (by omega) g6 k1 (by simp) k3 hrn.notAgg g7
                simp only [Nat.zero_add] at m1
                have hblt : b < w.heap.size := (Array.getElem?_eq_some_iff.1 g6).1
                have hbrb : some b ≠ rb := fun hh => by have := hrb b hh; omega
                have hbv : blockOf (a.eval x) = some b := by rw [hvx]; rfl
                have hl0 : lim b = some 0 := by rw [g10]; simp
                refine fin (.slice (some ⟨b, 0, none⟩) ys.length cx) w' lim (fun g => g = b) (fun g => g = b) (exec (by rw [hvx, hvy]; exact m1)) m2.os m2.tape m2.output (by rw [m2.size]; exact Nat.le_refl _) (fun k hk => ?_) (fun k _ hk => m2.other k hk) (fun _ _ => rfl)
                  (XRep.mkFlat hns rfl hroom ?_ m2.at_ (fun k hk => g7 k ?_) (fun _ => Iff.rfl) (fun j z hj q v hv => ?_)) (fun g hg => ⟨.inr hg, by rw [hg]; exact hl0⟩) rfl
                · subst hk
                  have hasl : HasL st a w β l k := ⟨_, _, ho3, ho2, hbv⟩
                  refine ⟨⟨hl0, .inl g5, hbrb, fun c d' hc he => h.ownb l k ho1 hasl c d' hc he, fun m hm hg => ?_⟩, fun ht => ?_⟩
                  · have hm' : m ≠ l ∧ st.own m = true := by
                      rcases own_apply hm with hn | hs
                      · cases m with
                        | tmp t p => cases hn.1
                        | box c p => obtain ⟨_, _, _, he, _⟩ := hn; cases he
                      · exact ⟨fun e => hs.2.1 (by rw [e]; simp), hs.1⟩
                    have hg' : HasL st a w β m k := by
                      obtain ⟨T, z, q1, q2, q3⟩ := hg
                      exact ⟨T, z, by rw [← q1]; cases m <;> rfl, by rw [← q2]; cases m <;> rfl, q3⟩
                    exact hm'.1 (h.sep m l k hm'.2 ho1 hg' hasl)
                  · exact h.xs.off ho1 hasl ht
                · have e1 : arr.size = arr.toList.length := by simp
                  rw [e1, k1] at g9
                  simp only [List.nil_append, List.size_toArray, List.length_append] at g9 ⊢
                  omega
                · have e1 : arr.size = arr.toList.length := by simp
                  rw [e1, k1]
                  simp only [List.nil_append, List.size_toArray, List.length_append] at hk ⊢
                  omega
                · have := hcellV j z hj q v hv
                  have hlt := (List.getElem?_eq_some_iff.1 this).1
                  simp only [List.nil_append, List.getElem?_toArray]
                  rw [List.getElem?_append_left hlt]; exact this
              · exact grow (by omega)
          · by_cases hz : ys.length = 0
            · exact nothing hnil hz
            · rw [hvx] at hnil; injection hnil with k1 k2 k3
              exact grow (by omega)
        · cases hc
      · cases hc
    | _ => rw [hty] at hc; cases hc
end
end Go.Den

namespace Go.Den
section
variable {P : Program} {tab : Tab} {w0 : Base} {lim0 : Lim} {rb : Option Nat} {n : Nat}
variable {st : St} {a : Act} {w : World} {lim : Lim} {β : Mp}

def buryS (st : St) (r : Tmp) : St := { st with io := fun k => cnd (Nat.beq k r) (some ⟨.unit, ()⟩) (st.io k) }
def buryM (β : Mp) (r : Tmp) : Mp := { β with V := fun k => if k = r then .agg #[] else β.V k, B := fun k => if k = r then (fun _ => False) else β.B k }
theorem bury_io {r : Tmp} : (buryS st r).io r = some ⟨.unit, ()⟩ := by simp [buryS]
theorem bury_ne {r k : Tmp} (h : k ≠ r) : (buryS st r).io k = st.io k := by
  have : Nat.beq k r = false := by
    cases hq : Nat.beq k r with
    | true => exact absurd (nbeq hq) h
    | false => rfl
  simp [buryS, this]
theorem Sim.bury (h : Sim w0 lim0 rb n st a w lim β) {r : Tmp} {d : Dat} (hr : st.io r = some d) (h0 : r ≠ 0) : Sim w0 lim0 rb n (buryS st r) a w lim (buryM β r) := by
  have lv : ∀ l, locV (buryS st r) a w (buryM β r) l = locV st a w β l := fun l => by cases l <;> rfl
  have lt : ∀ l, locTy (buryS st r) l = locTy st l := fun l => by cases l <;> rfl
  have Vne : ∀ k, k ≠ r → (buryM β r).V k = β.V k ∧ (buryM β r).B k = β.B k := fun k hk => by simp [buryM, hk]
  have Br : ∀ g, ¬ (buryM β r).B r g := fun g hg => by simp [buryM] at hg
  have cas : ∀ k x, (buryS st r).io k = some x → (k = r ∧ x = ⟨.unit, ()⟩) ∨ (k ≠ r ∧ st.io k = some x) := fun k x hk => by
    by_cases e : k = r
    · subst e; rw [bury_io] at hk; injection hk with hk; exact .inl ⟨rfl, hk.symm⟩
    · rw [bury_ne e] at hk; exact .inr ⟨e, hk⟩
  have old : ∀ k x g, (buryS st r).io k = some x → (buryM β r).B k g → k ≠ r ∧ st.io k = some x ∧ β.B k g := fun k x g hk hg => by
    rcases cas k x hk with ⟨rfl, _⟩ | ⟨e, hk⟩
    · exact absurd hg (Br g)
    · rw [(Vne k e).2] at hg; exact ⟨e, hk, hg⟩
  have lh : ∀ l g, HasL (buryS st r) a w (buryM β r) l g ↔ HasL st a w β l g := fun l g => by unfold HasL; rw [lt, lv]
  refine ⟨h.size, h.defers, h.grow, h.limOld, fun t => ?_, h.box, h.inj, fun l hl => ?_, fun l g hl hg => ?_, fun l l' g h1 h2 h3 h4 => ?_, fun t l h1 h2 => ?_, h.rd, ?_⟩
  · have ht := h.env t
    show ERep (buryS st r) w lim (buryM β r) rb (st.env t).av (tmpOf a t)
    cases hav : (st.env t).av with
    | xf k p =>
      rw [hav] at ht
      obtain ⟨x, k1, k2⟩ := ht
      by_cases e : k = r
      · subst e; exact ⟨_, bury_io, .inl rfl⟩
      · refine ⟨x, by rw [bury_ne e]; exact k1, ?_⟩
        rw [(Vne k e).1]; exact k2
    | xp k p m q =>
      rw [hav] at ht
      obtain ⟨x, k1, k2⟩ := ht
      by_cases e : k = r
      · subst e; exact ⟨_, bury_io, .inl rfl⟩
      · refine ⟨x, by rw [bury_ne e]; exact k1, ?_⟩
        rw [(Vne k e).1]; exact k2
    | xt k =>
      rw [hav] at ht
      obtain ⟨x, k1, k2⟩ := ht
      by_cases e : k = r
      · subst e; exact ⟨_, bury_io, .inl rfl⟩
      · refine ⟨x, by rw [bury_ne e]; exact k1, ?_⟩
        rw [(Vne k e).1]; exact k2
    | xe m q =>
      rw [hav] at ht
      obtain ⟨x, k1, k2, k3, k4⟩ := ht
      refine ⟨x, by rw [bury_ne (fun e => h0 e.symm)]; exact k1, k2, k3, ?_⟩
      rw [(Vne 0 (fun e => h0 e.symm)).1]; exact k4
    | _ => rw [hav] at ht; exact ht
  · rw [lt, lv]; exact h.own l hl
  · rw [lh] at hg; exact h.ownb l g hl hg
  · rw [lh] at h3 h4; exact h.sep l l' g h1 h2 h3 h4
  · rw [lt, lv]; exact h.tag t l h1 h2
  · refine ⟨fun k x hk => ?_, fun k x g hk hg => ?_, fun k x g hk hg b d' hb => ?_, fun k x g hk hg l hl hv => ?_, fun k x k' x' g hk hk' hg hg' => ?_, fun b t o hb => ?_, fun b t o hb => ?_, h.xs.xinj, fun x hx hm => ?_, ?_⟩
    · rcases cas k x hk with ⟨rfl, rfl⟩ | ⟨e, hk⟩
      · exact ⟨by simp [buryM]; rfl, Br⟩
      · rw [(Vne k e).1, (Vne k e).2]; exact h.xs.io k x hk
    · obtain ⟨e, hk, hg⟩ := old k x g hk hg
      exact h.xs.base k x g hk hg
    · obtain ⟨e, hk, hg⟩ := old k x g hk hg
      exact h.xs.box k x g hk hg b d' hb
    · obtain ⟨e, hk, hg⟩ := old k x g hk hg
      rw [lh] at hv
      exact h.xs.own k x g hk hg l hl hv
    · obtain ⟨e, hk, hg⟩ := old k x g hk hg
      obtain ⟨e', hk', hg'⟩ := old k' x' g hk' hg'
      exact h.xs.dis k x k' x' g hk hk' hg hg'
    · obtain ⟨cells, e, k1, k2, k3, k4, k5⟩ := h.xs.xb b t o hb
      refine ⟨cells, e, k1, k2, k3, k4, fun k q ho => ?_⟩
      obtain ⟨x, m1, m2⟩ := k5 k q ho
      by_cases e' : k = r
      · subst e'; exact ⟨_, bury_io, .inl rfl⟩
      · refine ⟨x, by rw [bury_ne e']; exact m1, ?_⟩
        rw [(Vne k e').1]; exact m2
    · obtain ⟨k1, k2, k3⟩ := h.xs.xbox b t o hb
      refine ⟨k1, fun l hl hv => ?_, fun k x hk hg => ?_⟩
      · rw [lh] at hv; exact k2 l hl hv
      · obtain ⟨e, hk, hg⟩ := old k x _ hk hg
        exact k3 k x hk hg
    · rcases cas 0 x hx with ⟨e, _⟩ | ⟨e, hx⟩
      · exact absurd e.symm h0
      · rw [(Vne 0 e).1, (Vne 0 e).2]; exact h.xs.fix x hx hm
    · have e : (0 : Tmp) ≠ r := fun e => h0 e.symm
      exact h.xs.kx.keep (fun x hx => h.xs.io 0 x hx) (fun x hx _ => ⟨x, by rw [bury_ne e] at hx; exact hx, rfl, (Vne 0 e).1⟩) rfl (fun _ _ _ _ => rfl)
theorem bury_free (h : Sim w0 lim0 rb n st a w lim β) {r : Tmp} {d : Dat} (hr : st.io r = some d) {g : Nat} (hg : β.B r g) : freeB w0 rb (buryS st r) a w lim (buryM β r) g ∧ ¬ isTree (buryS st r) (buryM β r) g := by
  obtain ⟨b1, b2, b3⟩ := h.xs.base r d g hr hg
  refine ⟨⟨b3, b1, b2, fun b d' hb => h.xs.box r d g hr hg b d' hb, fun l hl hv => ?_⟩, fun ht => ?_⟩
  · have hv : HasL st a w β l g := by cases l <;> exact hv
    exact h.xs.own r d g hr hg l hl hv
  · rcases ht with ⟨k, x, k1, k2⟩ | ⟨b, t, o, k1, k2⟩
    · by_cases e : k = r
      · subst e; simp [buryM] at k2
      · rw [bury_ne e] at k1
        have k2 : β.B k g := by simpa [buryM, e] using k2
        exact e (h.xs.dis k x r d g k1 hr k2 hg)
    · have k2 : g = β.c b := k2
      exact (h.xs.xbox b t o k1).2.2 r d hr (by rw [← k2]; exact hg)
theorem apply_bury {d : Option Tmp} {av : AV} {x : Tmp × Dat} (r : Tmp) (st : St) :
    apply (buryS st r) { upd0 d av none with xw := some x } = apply st { upd0 d av none with xw := some x, xk := some r } := by
  obtain ⟨c, d'⟩ := x
  exact St.ext' rfl rfl rfl rfl rfl rfl rfl rfl
theorem bury_free_io {r d : Tmp} (h : st.io d = none) (hr : st.io r ≠ none) : (buryS st r).io d = none := by
  have e : d ≠ r := fun e => hr (by rw [← e]; exact h)
  rw [bury_ne e]; exact h
theorem Sim.moveC {w' : World} {lim' : Lim} (h : Sim w0 lim0 rb n st a w lim β) (hrb : ∀ k, some k = rb → k < w0.heap.size) {r d : Tmp} {dr : Dat} (hr : st.io r = some dr) (h0 : r ≠ 0) (hd : d < n) (hfree : st.io d = none) (hd0 : d ≠ 0) (dat : Dat) (av : AV) (v : Value) (B0 : Nat → Prop)
    (h1 : w'.os = w.os) (h2 : w'.tape = w.tape) (h3 : w'.output = w.output) (hs : w.heap.size ≤ w'.heap.size) (hk : ∀ k, k < w.heap.size → ¬ β.B r k → w'.heap[k]? = w.heap[k]?) (hl : ∀ k, k < w.heap.size → lim' k = lim k)
    (hX : XRep w' dat.1 dat.2 (flatV v) B0) (hB : ∀ g, B0 g → (w.heap.size ≤ g ∨ β.B r g) ∧ lim' g = some 0) (hav : (av = .xf d [] ∧ v = wrapV dat.1 (flatV v)) ∨ (av = .xt d ∧ ∃ vs, v = .tuple vs.toArray ∧ TupSh dat.1 vs)) :
    ∃ β', Sim w0 lim0 rb n (apply st { upd0 (some d) av none with xw := some (d, dat), xk := some r }) (a.put (some d) v) w' lim' β' := by
  have hb := h.bury hr h0
  have := hb.newrootC hrb hd (bury_free_io hfree (by rw [hr]; simp)) hd0 dat av v B0 h1 h2 h3 hs (fun k => β.B r k) (fun k hk' => bury_free h hr hk') hk hl hX hB hav
  rw [apply_bury] at this
  exact ⟨_, this⟩
end
end Go.Den

namespace Go.Den
section
variable {P : Program} {tab : Tab} {w0 : Base} {lim0 : Lim} {rb : Option Nat} {n : Nat}
variable {st st' : St} {a : Act} {w : World} {lim : Lim} {β : Mp} {o : Oper} {c : Comp}

theorem ok_sliceX (hT : TabOk P tab) (h : Sim w0 lim0 rb n st a w lim β) (hrb : ∀ k, some k = rb → k < w0.heap.size) (hd : ∀ d, o.dst = some d → d < n) {t : TypeId} {x : Operand} {lo hi mx : Option Operand} (hop : o.op = .slice t x lo hi mx) (hc : stSliceX tab o t x lo hi mx st = some c) (ho : c.out st = some st') : OpOk P w0 lim0 rb n o st' a w := by
  unfold stSliceX at hc
  split at hc
  · rename_i r hx
    split at hc
    · rename_i e xs k hh d hio hhi hfree
      change List e.val at xs
      split at hc
      · rename_i hr0 hty hns
        injection hc with hc; subst hc
        obtain ⟨hchk, rfl⟩ := out_ret ho
        have hcut : cutL xs (avOpt st none) (avOpt st hi) = some (andB (le0 hh) (leI hh (lenL xs)), takeL xs hh) := by rw [hhi]; rfl
        have hr0' : r ≠ 0 := fun e0 => by subst e0; cases hr0
        obtain ⟨l, m, k0, k1, k2, hys, k3, k4, _⟩ := cut_spec hcut hchk
        have hl0 : l = 0 := by
          rcases k3 with ⟨_, k3⟩ | ⟨_, k3⟩
          · cases k3
          · exact k3
        subst hl0
        obtain ⟨el, h1, h2⟩ := elemTy hT (tyIs_some hty)
        obtain ⟨hdst, hfd, _, _, hd0⟩ := free_some hfree
        obtain ⟨dx, q1, q2⟩ : ERep st w lim β rb (.xf r []) (a.eval x) := hx ▸ h.ent x
        rw [hio] at q1; injection q1 with q1; subst q1
        have hX := h.xs.io r _ hio
        have hB := fun g hg => h.xs.base r _ g hio hg
        have hv : ∃ b cc, flatV (β.V r) = [.slice b xs.length cc] ∧ xs.length ≤ cc ∧ XRep w (.slice e) (xs.take m.toNat) [.slice b (m.toNat) cc] (β.B r) := by
          rcases XRep.flat hns hX with ⟨e1, e2, e3⟩ | ⟨g, cc, arr, el', fr, e1, e2, e3, e4, e5, e6, e7⟩
          · have e2 : xs.length = 0 := e2
            have hm : m.toNat = 0 := by omega
            refine ⟨none, 0, by rw [e1, e2], by omega, .inl ⟨by rw [hm], ?_, e3⟩⟩
            show (xs.take m.toNat).length = 0
            simp [hm]
          · refine ⟨_, cc, e1, e2, XRep.mkFlat hns ?_ ?_ e3 e4 e5 e6 (fun i z hz => ?_)⟩
            · have : (xs.take m.toNat).length = m.toNat := by simp; omega
              exact this.symm
            · have : (xs.take m.toNat).length = m.toNat := by simp; omega
              show (xs.take m.toNat).length ≤ cc
              have e2 : xs.length ≤ cc := e2
              omega
            · have hz : (xs.take m.toNat)[i]? = some z := hz
              rw [List.getElem?_take] at hz
              split at hz
              · exact e7 i z hz
              · cases hz
        obtain ⟨b, cc, hV, hle, hXr⟩ := hv
        have hev : a.eval x = .slice b xs.length cc := by
          rcases q2 with q2 | ⟨u, q3, q4⟩
          · cases q2
          · have : u = .slice e := by simpa [typeAt] using q3.symm
            subst this
            rw [hV] at q4
            simpa [offs, Ty.size, wrapV] using q4
        have hm : ∀ y, hi = some y → ∃ k', (Option.some y).map a.eval = some (.int k' m) := fun y hy => by
          subst hy
          rcases k4 with ⟨k', k4⟩ | ⟨k4, _⟩
          · simp only [avOpt] at k4; injection k4 with k4
            exact ⟨k', by simp only [Option.map_some, eval_int h k4]⟩
          · simp [avOpt] at k4
        have hhi' : ∃ k', hi.map a.eval = some (.int k' m) := by
          cases hi with
          | none => simp [avOpt] at hhi
          | some y => exact hm y rfl
        have hu := run_cut_slice (w := w) (b := b) (lo := none) h1 h2 k0 k1 k2 hle (.inr ⟨rfl, rfl⟩) (.inl hhi')
        have hb : (if cc = (0 : Int).toNat then b else b.map (·.add ((0 : Int).toNat * e.size))) = b := by
          split
          · rfl
          · cases b with
            | none => rfl
            | some ad => cases ad; simp [Addr.add]
        rw [hb] at hu
        have hm2 : takeL xs hh = xs.take m.toNat := by rw [hys]; simp
        have he : (execOp a.eval o).run P w = .ok (.value (.slice b m.toNat cc)) w := by
          simp only [execOp, hop, Instr.sliceAt, Sem.run_bind, underlying, run_program, h1, Result.andThen_ok, Sem.run_pure, Option.map_none, hev]
          simp only [hu, Result.andThen_ok]
          simp
        obtain ⟨β', hsim⟩ := h.moveC hrb hio hr0' (hd d hdst) hfd hd0 ⟨.slice e, xs.take m.toNat⟩ (.xf d []) (.slice b m.toNat cc) (β.B r) rfl rfl rfl (Nat.le_refl _) (fun _ _ _ => rfl) (fun _ _ => rfl) hXr (fun g hg => ⟨.inr hg, (hB g hg).2.2⟩) (.inl ⟨rfl, rfl⟩)
        refine OpOk.value (o := o) (lim := lim) (β := β') he ?_
        rw [hdst, hm2]
        exact hsim
      · cases hc
    · cases hc
  · cases hc
end
end Go.Den

namespace Go.Den
section
variable {P : Program} {tab : Tab} {w0 : Base} {lim0 : Lim} {rb : Option Nat} {n : Nat}
variable {st st' : St} {a : Act} {w : World} {lim : Lim} {β : Mp} {o : Oper} {c : Comp}

theorem SRep_list {l : Lim} {e : Ty} {ys : List e.val} {b : Option Addr} (h : SRep w l (CRep w l e) e.size ys b) : ∃ news, RRep w l e ys news ∧ (ys = [] ∨ ∃ bb oo, b = some ⟨bb, oo, none⟩ ∧ ∀ k v, news[k]? = some v → w.cell? ⟨bb, oo + k, none⟩ = some v) := by
  rcases h with hsy | ⟨bb, oo, rfl, hb, hu, hcell⟩
  · subst hsy; exact ⟨[], RRep.nil e, .inl rfl⟩
  · obtain ⟨L, k1, k2⟩ := SRep_cells hcell
    exact ⟨L, k1, .inr ⟨bb, oo, rfl, k2⟩⟩
theorem RRep.cells {l : Lim} {e : Ty} {ys : List e.val} {news : List Value} (hns : noSl e = true) (hrn : RRep w l e ys news) : ∀ (i : Nat) (z : e.val), ys[i]? = some z → ∀ j v, (cellsV e z)[j]? = some v → news[i * e.size + j]? = some v := fun i z hz j v hv => by
  obtain ⟨cs, k1, k2⟩ := hrn.2 i z hz
  rw [(CRep_noSl hns).1 k1] at k2
  exact k2 j v hv
theorem cells_app {e : Ty} (hns : noSl e = true) {xs ys : List e.val} {olds news rest : List Value} (ho : olds.length = xs.length * e.size)
    (h1 : ∀ (i : Nat) (z : e.val), xs[i]? = some z → ∀ j v, (cellsV e z)[j]? = some v → olds[i * e.size + j]? = some v) (h2 : ∀ (i : Nat) (z : e.val), ys[i]? = some z → ∀ j v, (cellsV e z)[j]? = some v → news[i * e.size + j]? = some v) :
    ∀ (i : Nat) (z : e.val), (xs ++ ys)[i]? = some z → ∀ j v, (cellsV e z)[j]? = some v → (olds ++ (news ++ rest)).toArray[i * e.size + j]? = some v := fun i z hz j v hv => by
  simp only [List.getElem?_toArray]
  by_cases hi : i < xs.length
  · rw [List.getElem?_append_left hi] at hz
    have := h1 i z hz j v hv
    rw [List.getElem?_append_left (List.getElem?_eq_some_iff.1 this).1]; exact this
  · rw [List.getElem?_append_right (by omega)] at hz
    have := h2 _ z hz j v hv
    have e1 : i * e.size + j = olds.length + ((i - xs.length) * e.size + j) := by
      rw [ho, ← Nat.add_assoc, ← Nat.add_mul]; congr 2; omega
    rw [e1, List.getElem?_append_right (by omega), Nat.add_sub_cancel_left, List.getElem?_append_left (List.getElem?_eq_some_iff.1 this).1]; exact this
theorem ok_appendT (hT : TabOk P tab) (h : Sim w0 lim0 rb n st a w lim β) (hrb : ∀ k, some k = rb → k < w0.heap.size) (hd : ∀ d, o.dst = some d → d < n) {t : TypeId} {x y : Operand} {cl : Call} (hop : o.op = .call cl) (hcal : cl.callee = .builtin .append) (ha : cl.args = #[x, y]) (hat : cl.argTypes = #[t, t])
    (hc : stAppendT tab o t x y st = some c) (ho : c.out st = some st') : OpOk P w0 lim0 rb n o st' a w := by
  unfold stAppendT at hc
  split at hc
  · rename_i r hx
    split at hc
    · rename_i e xs hio
      change List e.val at xs
      split at hc
      · rename_i ys d hy hfree
        change List e.val at ys
        split at hc
        · rename_i hr0 hty hns
          injection hc with hc; subst hc
          obtain ⟨hchk, rfl⟩ := out_ret ho
          have hr0' : r ≠ 0 := fun e0 => by subst e0; cases hr0
          have hlt : (xs.length : Int) + (ys.length : Int) < big := ltI_iff.1 hchk
          unfold big at hlt
          obtain ⟨hdst, hfd, _, _, hd0⟩ := free_some hfree
          obtain ⟨el, h1, h2⟩ := elemTy hT (tyIs_some hty)
          have hax : argX st (st.ent x).av = .dat (.slice e) xs := by rw [hx]; simp [argX, St.atX, hio, isU, getP]
          obtain ⟨bx, cx, hvx, hlx, hsx⟩ := slice_rep (st := st) (β := β) (rb := rb) (hax ▸ argX_rep h x)
          obtain ⟨by', cy, hvy, hly, hsy⟩ := slice_rep (st := st) (β := β) (rb := rb) (as_rep hy (argX_rep h y))
          have hvx : a.eval x = .slice bx xs.length cx := hvx
          have hvy : a.eval y = .slice by' ys.length cy := hvy
          obtain ⟨olds, hro, hoc⟩ := SRep_list hsx
          obtain ⟨news, hrn, hnc⟩ := SRep_list hsy
          have hoV := RRep.cells hns hro
          have hnV := RRep.cells hns hrn
          have exec : ∀ {r w2}, (Builtin.append_ #[t, t] o.type #[a.eval x, a.eval y]).run P w = .ok r w2 → (execOp a.eval o).run P w = .ok (.value r) w2 := by
            intro r w2 hr
            have e0 : cl.args.map a.eval = #[a.eval x, a.eval y] := by rw [ha]; simp
            simp only [execOp, hop, resolve, hcal, Sem.run_bind, Sem.run_pure, Result.andThen_ok, invoke, builtin, e0, hat, hr]
          have fin : ∀ (v : Value) (w2 : World) (l2 : Lim) (B0 : Nat → Prop), (execOp a.eval o).run P w = .ok (.value v) w2 → w2.os = w.os → w2.tape = w.tape → w2.output = w.output → w.heap.size ≤ w2.heap.size →
              (∀ k, k < w.heap.size → ¬ β.B r k → w2.heap[k]? = w.heap[k]?) → (∀ k, k < w.heap.size → l2 k = lim k) → XRep w2 (.slice e) (xs ++ ys) (flatV v) B0 → (∀ g, B0 g → (w.heap.size ≤ g ∨ β.B r g) ∧ l2 g = some 0) → v = wrapV (.slice e) (flatV v) →
              OpOk P w0 lim0 rb n o (apply st { upd0 (some d) (.xf d []) none with xw := some (d, ⟨.slice e, appL xs ys⟩), xk := some r }) a w := by
            intro v w2 l2 B0 he m1 m2 m3 m4 hk hl hX hB hv
            obtain ⟨β', hsim⟩ := h.moveC hrb hio hr0' (hd d hdst) hfd hd0 ⟨.slice e, xs ++ ys⟩ (.xf d []) v B0 m1 m2 m3 m4 hk hl hX hB (.inl ⟨rfl, hv⟩)
            exact OpOk.value (o := o) (lim := l2) (β := β') he (by rw [hdst]; exact hsim)
          have hll : (xs ++ ys).length = xs.length + ys.length := by simp
          have hz : (zeroCells e).toArray.size = e.size := by simpa using (zero_rep w lim e).length
          have grow : cx < xs.length + ys.length → OpOk P w0 lim0 rb n o (apply st { upd0 (some d) (.xf d []) none with xw := some (d, ⟨.slice e, appL xs ys⟩), xk := some r }) a w := by
            intro hg
            have r1 := run_first (P := P) (cc := cx) (w2 := w.drew) hro hoc
            have r2 := run_first (P := P) (cc := cy) (w2 := w.drew) hrn hnc
            have hrun := run_append_at_new (ty := o.type) h1 h2 (sv := .slice bx xs.length cx) rfl r1 r2 (by omega) (by omega)
            have hge := grownCap_ge w (xs.length + ys.length) cx el
            refine fin (.slice (some ⟨w.heap.size, 0, none⟩) (xs.length + ys.length) (grownCap w (xs.length + ys.length) cx el)) (w.drew.alloc (.cells (olds ++ (news ++ (Builtin.zeroCells (zeroCells e).toArray (grownCap w (xs.length + ys.length) cx el - (xs.length + ys.length))).toList)).toArray el)) (limSet lim w.heap.size (some 0)) (fun g => g = w.heap.size) (exec (by rw [hvx, hvy, hrun])) rfl rfl rfl (by simp)
              (fun k hk _ => alloc_old (w := w.drew) _ hk) (fun k hk => by simp [limSet, show k ≠ w.heap.size by omega]) (XRep.mkFlat hns hll.symm (by rw [hll]; exact hge) ?_ (alloc_new (w := w.drew) _) (fun _ _ hk => by simp at hk) (fun _ => Iff.rfl) (cells_app hns hro.1 hoV hnV))
              (fun g hg => ⟨.inl (by rw [hg]; exact Nat.le_refl _), by simp [limSet, hg]⟩) rfl
            simp only [List.size_toArray, List.length_append, Array.length_toList, size_zeroCells, hz, hrn.1, hro.1]
            rw [← Nat.add_mul, ← Nat.add_mul]
            exact Nat.mul_le_mul_right _ (by omega)
          obtain ⟨dx, q1, q2⟩ : ERep st w lim β rb (.xf r []) (a.eval x) := hx ▸ h.ent x
          rw [hio] at q1; injection q1 with q1; subst q1
          have hev : a.eval x = wrapV (.slice e) ((flatV (β.V r)).take 1) := by
            rcases q2 with q2 | ⟨u, q3, q4⟩
            · cases q2
            · have : u = .slice e := by simpa [typeAt] using q3.symm
              subst this
              simpa [offs, Ty.size] using q4
          have hX := h.xs.io r _ hio
          rcases XRep.flat hns hX with ⟨e1, e2, e3⟩ | ⟨g, cc, arr, el', fr, e1, e2, e3, e4, e5, e6, e7⟩
          · have e2 : xs.length = 0 := e2
            have hev : a.eval x = .slice none 0 0 := by rw [hev, e1]; rfl
            have hev2 := hev
            rw [hvx] at hev2; injection hev2 with _ _ k3
            by_cases hz0 : ys.length = 0
            · have r2 := run_first (P := P) (cc := cy) (w2 := w) hrn hnc
              rw [hz0] at r2
              have hrun := run_append_nothing (ty := o.type) h1 h2 r2
              exact fin (.slice none 0 0) w lim (fun _ => False) (exec (by rw [hev, hvy, hz0]; exact hrun)) rfl rfl rfl (Nat.le_refl _) (fun _ _ _ => rfl) (fun _ _ => rfl) (.inl ⟨rfl, by show (xs ++ ys).length = 0; omega, fun _ hg => hg⟩) (fun _ hg => hg.elim) rfl
            · exact grow (by omega)
          · have hev : a.eval x = .slice (some ⟨g, 0, none⟩) xs.length cc := by rw [hev, e1]; rfl
            rw [hvx] at hev; injection hev with k1 _ k3
            subst k1; subst k3
            have e3 : cx * e.size ≤ arr.size := e3
            by_cases hroom : xs.length + ys.length ≤ cx
            · have r2 := run_first (P := P) (cc := cy) (w2 := w) hrn hnc
              have hfit : (xs.length + ys.length) * e.size ≤ arr.size := Nat.le_trans (Nat.mul_le_mul_right _ hroom) e3
              rw [Nat.add_mul] at hfit
              have hnl := hrn.1
              have hal : arr.toList.length = arr.size := by simp
              obtain ⟨c1, c2, c3, k1, k2, k3, k4⟩ : ∃ c1 c2 c3, arr.toList = c1 ++ (c2 ++ c3) ∧ c1.length = xs.length * e.size ∧ c2.length = news.length ∧ c1 = arr.toList.take (xs.length * e.size) := by
                refine ⟨arr.toList.take (xs.length * e.size), (arr.toList.drop (xs.length * e.size)).take news.length, (arr.toList.drop (xs.length * e.size)).drop news.length, ?_, ?_, ?_, rfl⟩
                · rw [List.take_append_drop, List.take_append_drop]
                · rw [List.length_take]; omega
                · rw [List.length_take, List.length_drop]; omega
              obtain ⟨w', m1, m2⟩ := run_append_at_room (ty := o.type) (s := xs.length) (sc := cx) (m := ys.length) h1 h2 r2 hroom e4 k1 k2 k3 hrn.notAgg (fun k hk => e5 k hk)
              have hc1 : ∀ (i : Nat) (z : e.val), xs[i]? = some z → ∀ j v, (cellsV e z)[j]? = some v → c1[i * e.size + j]? = some v := fun i z hz j v hv => by
                have m := e7 i z hz j v hv
                have hj : j < e.size := by
                  rw [← cellsV_length (x := z) hns]; exact (List.getElem?_eq_some_iff.1 hv).1
                have hi : i < xs.length := (List.getElem?_eq_some_iff.1 hz).1
                have : (i + 1) * e.size ≤ xs.length * e.size := Nat.mul_le_mul_right _ hi
                rw [Nat.add_mul] at this
                rw [k4, List.getElem?_take, if_pos (by omega)]
                simpa using m
              have hsz : (c1 ++ (news ++ c3)).toArray.size = arr.size := by
                have e1 : arr.size = arr.toList.length := by simp
                rw [e1, k1]
                simp only [List.size_toArray, List.length_append]; omega
              refine fin (.slice (some ⟨g, 0, none⟩) (xs.length + ys.length) cx) w' lim (fun h => h = g) (exec (by rw [hvx, hvy]; exact m1)) m2.os m2.tape m2.output (by rw [m2.size]; exact Nat.le_refl _) (fun k _ hk => m2.other k (fun e0 => hk ((e6 k).2 e0))) (fun _ _ => rfl)
                (XRep.mkFlat hns hll.symm (by rw [hll]; exact hroom) (by rw [hsz]; exact e3) m2.at_ (fun k hk => e5 k (by rw [← hsz]; exact hk)) (fun _ => Iff.rfl) (cells_app hns k2 hc1 hnV)) (fun g' hg => ⟨.inr ((e6 g').2 hg), (h.xs.base r _ g' hio ((e6 g').2 hg)).2.2⟩) rfl
            · exact grow (by omega)
        · cases hc
      · cases hc
    · cases hc
  · cases hc
end
end Go.Den

namespace Go.Den
section
variable {P : Program} {tab : Tab} {w0 : Base} {lim0 : Lim} {rb : Option Nat} {n : Nat}
variable {st st' : St} {a : Act} {w : World} {lim : Lim} {β : Mp} {o : Oper} {c : Comp}

theorem ok_graftX (hT : TabOk P tab) (h : Sim w0 lim0 rb n st a w lim β) (hrb : ∀ k, some k = rb → k < w0.heap.size) (hd : ∀ d, o.dst = some d → d < n) {t : TypeId} {x v : Operand} {r r2 : Tmp} {p q : List Nat} {k : Int} (hop : o.op = .store t x v) (hxe : (st.ent x).av = .xp r p k q) (hve : (st.ent v).av = .xf r2 [])
    (hc : stGraftX tab o t r p k q r2 st = some c) (ho : c.out st = some st') : OpOk P w0 lim0 rb n o st' a w := by
  unfold stGraftX at hc
  split at hc
  · rename_i d e xs z hio hat hat2
    change List e.val at xs
    cases hy : getP e (atL (α := e.val) xs k e.zero) q with
    | none => rw [hy] at hc; cases hc
    | some y =>
      rw [hy] at hc; simp only [] at hc
      cases hty : tyIs (tab t) y.1 with
      | false => rw [hty] at hc; cases hc
      | true =>
      cases hne : cnd (Nat.beq r 0) true (cnd (Nat.beq r2 0) true (Nat.beq r r2)) with
      | true => rw [hty, hne] at hc; cases hc
      | false =>
      cases hz : Ty.cast z.1 y.1 z.2 with
      | none => rw [hty, hne, hz] at hc; cases hc
      | some z' =>
        rw [hty, hne, hz] at hc; simp only [] at hc
        cases hs1 : setP e (atL (α := e.val) xs k e.zero) q ⟨y.1, z'⟩ with
        | none => rw [hs1] at hc; cases hc
        | some x' =>
          rw [hs1] at hc; simp only [] at hc
          cases hs2 : setP d.1 d.2 p ⟨.slice e, setL (α := e.val) xs k x'⟩ with
          | none => rw [hs2] at hc; cases hc
          | some d' =>
            rw [hs2] at hc
            injection hc with hc; subst hc
            obtain ⟨hr, rfl⟩ := out_ret ho
            have hr := inRange hr
            have hr0 : r ≠ 0 := fun e0 => by rw [e0] at hne; cases hne
            have hr20 : r2 ≠ 0 := fun e0 => by rw [e0] at hne; cases hq : Nat.beq r 0 <;> rw [hq] at hne <;> cases hne
            have hrr : r ≠ r2 := fun e0 => by
              subst e0
              have : Nat.beq r 0 = false := by cases hq : Nat.beq r 0 with
                | false => rfl
                | true => exact absurd (nbeq hq) hr0
              rw [this, Nat.beq_refl] at hne; cases hne
            obtain ⟨d2, h2io, h2p⟩ := atX_some hat2
            have hzd : d2 = z := by
              simp only [getP] at h2p; injection h2p
            subst hzd
            obtain ⟨e1, e2⟩ := cast_some hz
            obtain ⟨yt, yv⟩ := y
            obtain ⟨zt, zv⟩ := d2
            simp only at e1 e2 hs1 hs2 hty
            subst e1
            have e2 : z' = zv := e2
            subst e2
            have X2 := h.xs.io r2 _ h2io
            obtain ⟨d3, h3io, hv⟩ := xf_val h hve hat2
            rw [h2io] at h3io; injection h3io with h3io; subst h3io
            have ho0 : offs zt [] = 0 := by cases zt <;> rfl
            have hl2 := X2.length
            simp only at hl2
            have hv : a.eval v = wrapV zt (flatV (β.V r2)) := by
              rw [hv]; simp only [ho0, List.drop_zero]; rw [← hl2, List.take_length]
            have hcr := X2.crep (lim := fun _ => none) (fun _ _ => rfl)
            have hcl : (a.eval v).cells = (flatV (β.V r2)).toArray := by rw [hv]; exact wrapV_cells hcr
            obtain ⟨w', g, ob, Bu, he, r5, c1, c2, c3, c4, _⟩ := store_core hT h hop hxe hio hat hr hy hty (by rw [hcl]; simpa using hl2) (fun u hu => hcr.cells u (by rw [hcl] at hu; simpa using hu))
            have hglt := (h.xs.io r d hio).lt g c1
            have hX2 : XRep w' zt z' (flatV (β.V r2)) (β.B r2) := X2.keep fun b hb => r5.other b (fun e0 => hrr (h.xs.dis r d r2 _ b hio h2io (by rw [e0]; exact c1) hb))
            have hX := c4 z' x' d' (β.B r2) hs1 hs2 (fun b hb hb2 => absurd (h.xs.dis r d r2 _ b hio h2io hb2 hb) hrr) (by rw [hcl]; exact hX2)
            have eV : (buryM β r2).V r = β.V r := by simp [buryM, hrr]
            have eB : (buryM β r2).B r = β.B r := by simp [buryM, hrr]
            have hb := h.bury h2io hr20
            have hsim := hb.setrootB (o := o) (d := d) (d' := ⟨d.1, d'⟩) (w' := w') (lim' := lim) hrb hd (by rw [bury_ne hrr]; exact hio) rfl .skp undef (fun b => (β.B r b ∧ ¬ Bu b) ∨ β.B r2 b) (β.B r2) (fun b hb => bury_free h h2io hb)
              (fun b hb => hb.elim (fun hb => .inl (by rw [eB]; exact hb.1)) .inr) (fun b hb => X2.lt b hb) hr0 r5.os r5.tape r5.output (by rw [r5.size]; exact Nat.le_refl _)
              (fun j _ hn => r5.other j (fun e0 => hn (by rw [eB, e0]; exact c1))) (fun _ _ => rfl) (by rw [eV]; exact hX) (fun _ _ => rfl)
            rw [apply_bury] at hsim
            exact .skip (lim := lim) he hsim
  · cases hc
end
end Go.Den

namespace Go.Den
section
variable {P : Program} {tab : Tab} {G : Gam} {w0 : Base} {lim0 : Lim} {rb : Option Nat} {n : Nat}
variable {st st' : St} {a : Act} {w w' : World} {lim lim' : Lim} {β : Mp} {o : Oper} {c : Comp}
theorem ok_assignM (h : Sim w0 lim0 rb n st a w lim β) (hd : ∀ d, o.dst = some d → d < n) {x : Operand} (he : (execOp a.eval o).run P w = .ok (.value (a.eval x)) w) (ho : (stAssignM o x st c).out st = some st') (hc : c.out st = some st' → OpOk P w0 lim0 rb n o st' a w) : OpOk P w0 lim0 rb n o st' a w := by
  unfold stAssignM at ho
  split at ho
  · rename_i e v l hav hw
    have hx := h.ent x
    rw [hav] at hx
    have has : AV.as (.slice e) (st.ent x).av = some v := by rw [hav]; exact cast_self _ _
    rcases owner_spec h hw has with ⟨l', e1, k1, k2, k3⟩ | ⟨e1, _⟩
    · injection e1 with e1; subst e1
      obtain ⟨b, cc, hv, _⟩ := slice_rep hx
      cases hst : st.own (starL l) with
      | false =>
        rw [hst] at ho
        obtain ⟨_, rfl⟩ := out_ret ho
        refine .value he (h.val { upd0 o.dst (.dat (.slice e) v) none with own := [[]], takes := [l] } _ hd rfl rfl hx (fun _ => l) (fun p hp => ?_) (fun p hp q hq _ => ?_) (fun l hl => by cases hl) (fun l hl => by cases hl))
        · simp at hp; subst hp
          refine ⟨.slice e, a.eval x, rfl, ?_, .inr ⟨by simp, k1, k2, k3⟩⟩
          simp only [upd0, partAV, hv, flat_slice, offs]; rfl
        · simp at hp hq; subst hp; subst hq; rfl
      | true =>
        rw [hst] at ho
        obtain ⟨_, rfl⟩ := out_ret ho
        obtain ⟨s1, s2⟩ := starL_loc (a := a) (w := w) (β := β) k3
        refine .value he (h.val { upd0 o.dst (.dat (.slice e) v) none with own := [[], [0]], takes := [l, starL l] } _ hd rfl rfl hx (fun p => match p with
          | [] => l
          | _ => starL l) (fun p hp => ?_) (fun p hp q hq hpq => ?_) (fun l hl => by cases hl) (fun l hl => by cases hl))
        · have hp : p = [] ∨ p = [0] := by simpa using hp
          rcases hp with rfl | rfl
          · refine ⟨.slice e, a.eval x, rfl, ?_, .inr ⟨by simp, k1, k2, k3⟩⟩
            simp only [upd0, partAV, hv, flat_slice, offs]; rfl
          · refine ⟨.prod (.slice e) .unit, a.eval x, rfl, ?_, .inr ⟨by simp, hst, s2.trans k2, s1⟩⟩
            simp only [upd0, partAV, hv, flat_slice, offs]; rfl
        · have hp : p = [] ∨ p = [0] := by simpa using hp
          have hq : q = [] ∨ q = [0] := by simpa using hq
          rcases hp with rfl | rfl <;> rcases hq with rfl | rfl
          · rfl
          · exact absurd (show starL l = l from (show l = starL l from hpq).symm) (starL_ne l)
          · exact absurd (show starL l = l from hpq) (starL_ne l)
          · rfl
    · cases e1
  · rename_i t v hav
    obtain ⟨_, rfl⟩ := out_ret ho
    have hx := h.ent x
    rw [hav] at hx
    refine .value he (h.val { upd0 o.dst (.tup t v) none with own := st.owned x (slicePaths t), takes := takesOf x (st.owned x (slicePaths t)) } _ hd rfl rfl hx (srcOf x) (fun p hp => ?_) (fun p _ q _ hpq => srcOf_inj _ hpq) (fun l hl => by cases hl) (fun l hl => by cases hl))
    obtain ⟨h1, h2⟩ := owned_mem hp
    cases x with
    | tmp s =>
      obtain ⟨e, y, k1, k2, _⟩ := h.own _ h2
      have k1' := k1
      have k2' := k2
      have hav' : (st.env s).av = .tup t v := hav
      rw [locTy_tmp, hav'] at k1'
      rw [locV_tmp, hav'] at k2'
      exact ⟨e, y, k1', k2', .inr ⟨mem_takesOf (fun k hk => by cases hk) h2 hp, h2, k2, k1⟩⟩
    | const kk => simp only [St.ent] at hav; unfold constAV at hav; split at hav <;> cases hav
    | global g => cases h2
    | func f => cases h2
  · exact hc ho
theorem arr1 {α : Type} {x : Array α} {y : α} (h : x.toList = [y]) : x = #[y] := by apply Array.ext'; simpa using h
theorem arr2 {α : Type} {x : Array α} {y z : α} (h : x.toList = [y, z]) : x = #[y, z] := by apply Array.ext'; simpa using h

theorem step_ok (hT : TabOk P tab) (hG : GamOk P G) (h : Sim w0 lim0 rb n st a w lim β) (hrb : ∀ k, some k = rb → k < w0.heap.size) (hd : ∀ d, o.dst = some d → d < n) (hc : stepC tab G o st = some c) (ho : c.out st = some st') : OpOk P w0 lim0 rb n o st' a w := by
  unfold stepC at hc
  cases hop : o.op with
  | move x =>
    rw [hop] at hc; injection hc with hc; subst hc
    cases hm : mkD st o.dst with
    | true => rw [hm] at ho; exact ok_assignM h hd (by simp [execOp, hop]) ho fun ho => ok_move h hd hop ho
    | false => rw [hm] at ho; exact ok_move h hd hop ho
  | assign x =>
    rw [hop] at hc; injection hc with hc; subst hc
    cases hm : mkD st o.dst with
    | true => rw [hm] at ho; exact ok_assignM h hd (by simp [execOp, hop]) ho fun ho => ok_assign h hd hop ho
    | false => rw [hm] at ho; exact ok_assign h hd hop ho
  | pick x y z => rw [hop] at hc; exact ok_pick h hd hop hc ho
  | alloc e =>
    rw [hop] at hc; simp only [] at hc
    cases hm : mkD st o.dst with
    | true => rw [hm] at hc; exact ok_allocX hT h hrb hd hop hc ho
    | false => rw [hm] at hc; exact ok_alloc hT h hrb hd hop hc ho
  | box e x =>
    rw [hop] at hc; simp only [] at hc
    split at hc
    · rename_i r p hx; exact ok_boxX h hrb hd hop hx hc ho
    · exact ok_box h hrb hd hop hc ho
  | build t ps => rw [hop] at hc; exact ok_build hT h hd hop hc ho
  | buildSlice t k ps => rw [hop] at hc; exact ok_buildSlice hT h hrb hd hop hc ho
  | load t x =>
    rw [hop] at hc; simp only [] at hc
    split at hc
    · rename_i b p hx; exact ok_loadX hT h hd hop hx hc ho
    · rename_i r p k q hx; exact ok_loadP hT h hd hop hx hc ho
    · exact ok_load hT h hd hop hc ho
  | store t x v =>
    rw [hop] at hc; simp only [] at hc
    split at hc
    · rename_i r p k q r2 hx hv; exact ok_graftX hT h hrb hd hop hx hv hc ho
    · rename_i r p k q hx _; exact ok_storeX hT h hrb hd hop hx hc ho
    · rename_i b r q hx hv; exact ok_putX hT h hrb hd hop hx hv hc ho
    · exact ok_store hT h hrb hd hop hc ho
  | nilCheck x => rw [hop] at hc; exact ok_nilCheck h hd hop hc ho
  | binOp op xt x y yt => rw [hop] at hc; exact ok_bin hT h hd hop hc ho
  | unOp op t x => rw [hop] at hc; exact ok_un h hd hop hc ho
  | convert s t x =>
    rw [hop] at hc; simp only [] at hc
    split at hc
    · rename_i r p hx; exact ok_convX hT h hd hop hx hc ho
    · exact ok_conv hT h hd hop hc ho hrb
  | makeSlice t x y =>
    rw [hop] at hc; simp only [] at hc
    cases hm : mkD st o.dst with
    | true => rw [hm] at hc; exact ok_makeX hT h hrb hd hop hc ho
    | false => rw [hm] at hc; exact ok_makeSlice hT h hrb hd hop hc ho
  | slice t x lo hi mx =>
    rw [hop] at hc
    simp only [] at hc
    split at hc
    · exact ok_sliceX hT h hrb hd hop hc ho
    · exact ok_slice hT h hd hop hc ho
  | fieldAddr s x f =>
    rw [hop] at hc; simp only [] at hc
    split at hc
    · rename_i r p k q hx; exact ok_fieldAddrX hT h hd hop hx hc ho
    · rename_i b p hx; exact ok_fieldAddrC hT h hd hop hx hc ho
    · exact ok_fieldAddr hT h hd hop hc ho
  | field s x f => rw [hop] at hc; exact ok_field hT h hd hop hc ho
  | indexAddr t x i =>
    rw [hop] at hc; simp only [] at hc
    split at hc
    · rename_i r p hx; exact ok_indexAddrX hT h hd hop hx hc ho
    · exact ok_indexAddr hT h hd hop hc ho
  | index t x i => rw [hop] at hc; exact ok_index hT h hd hop hc ho
  | extract x i =>
    rw [hop] at hc; simp only [] at hc
    split at hc
    · rename_i r hx; exact ok_extractX h hd hop hx hc ho
    · exact ok_extract h hd hop hc ho
  | call cl =>
    rw [hop] at hc
    simp only [] at hc
    split at hc
    · rename_i f hcal
      cases hF : hasF G f with
      | true => rw [hF] at hc; exact ok_callF hG h hrb hd hop hcal hc ho
      | false =>
      rw [hF] at hc; simp only [cnd_false] at hc
      cases hm : cnd (anyX st cl.args.toList) true (cnd (mkD st o.dst) true (isMut G f)) with
      | true => rw [hm] at hc; exact ok_callX hG h hrb hd hop hcal hc ho
      | false => rw [hm] at hc; exact ok_call hG h hrb hd hop hcal rfl hc ho
    · rename_i t hcal
      split at hc
      · rename_i f hav
        have ht := h.env t
        rw [hav] at ht
        exact ok_call hG h hrb hd hop hcal ht hc ho
      · cases hc
    · rename_i hcal
      split at hc
      · rename_i x t hx ht
        split at hc
        · rename_i r p hxe; exact ok_lenX hT h hd hop hcal (arr1 hx) (arr1 ht) hxe hc ho
        · exact ok_len hT h hd hop hcal (arr1 hx) (arr1 ht) hc ho
      · cases hc
    · rename_i hcal
      split at hc
      · rename_i x y t t' hx ht
        cases hq : Nat.beq t t' with
        | false => rw [hq] at hc; cases hc
        | true =>
          rw [hq] at hc
          have := nbeq hq; subst this
          simp only [cnd_true] at hc
          split at hc
          · exact ok_appendT hT h hrb hd hop hcal (arr2 hx) (arr2 ht) hc ho
          · cases hm : mkD st o.dst with
            | true => rw [hm] at hc; exact ok_appendX hT h hrb hd hop hcal (arr2 hx) (arr2 ht) hc ho
            | false => rw [hm] at hc; exact ok_append hT h hrb hd hop hcal (arr2 hx) (arr2 ht) hc ho
      · cases hc
    · rename_i hcal
      split at hc
      · rename_i x y hx
        exact ok_minmax (mx := false) h hd hop hcal (arr2 hx) hc ho
      · cases hc
    · rename_i hcal
      split at hc
      · rename_i x y hx
        exact ok_minmax (mx := true) h hd hop hcal (arr2 hx) hc ho
      · cases hc
    · cases hc
  | _ => rw [hop] at hc; cases hc
end
end Go.Den

namespace Go.Den
section
variable {P : Program} {tab : Tab} {G : Gam} {w0 : Base} {lim0 : Lim} {rb : Option Nat} {n : Nat}
variable {st st' : St} {a : Act} {w w' : World} {lim lim' : Lim} {β : Mp} {o : Oper} {c : Comp}

theorem setAV_self {t : Tmp} {v : AV} (h : (st.env t).av = v) : setAV st t v = st := by
  obtain ⟨env, box, own, rd⟩ := st
  unfold setAV
  simp only at h ⊢
  congr 1
  funext u
  cases hq : Nat.beq u t with
  | true =>
    have := nbeq hq; subst this
    rw [cnd_true, ← h]
  | false => rfl

theorem guardT_spec {ops : Array Oper} {g : Nat} {t : Tmp} (h : guardT ops.toList g = some t) : (ops[g]?).bind (·.dst) = some t := by
  unfold guardT at h
  have e1 : ops.toList[g]? = ops[g]? := by simp
  rw [e1] at h
  cases hq : ops[g]? with
  | none => rw [hq] at h; cases h
  | some o => rw [hq] at h; exact h
theorem yielded_bool {ops : Array Oper} {g : Nat} {t : Tmp} {b : Bool} (hg : guardT ops.toList g = some t) (hv : tmpOf a t = .bool b) : yielded ops a.tmps g = some b := by
  unfold yielded
  rw [guardT_spec hg]
  simp only [Option.bind_some]
  unfold tmpOf at hv
  rw [Array.getD_eq_getD_getElem?] at hv
  cases hq : a.tmps[t]? with
  | none => rw [hq] at hv; cases hv
  | some v => rw [hq] at hv; simp only [Option.getD_some] at hv; rw [hv]
theorem yielded_skip {ops : Array Oper} {g : Nat} {t : Tmp} (hg : guardT ops.toList g = some t) (hv : tmpOf a t = undef) : yielded ops a.tmps g = none := by
  unfold yielded
  rw [guardT_spec hg]
  simp only [Option.bind_some]
  unfold tmpOf at hv
  rw [Array.getD_eq_getD_getElem?] at hv
  cases hq : a.tmps[t]? with
  | none => rfl
  | some v => rw [hq] at hv; simp only [Option.getD_some] at hv; rw [hv]; rfl

def eqW (b want : Bool) : Bool := b == want
def oneU (tab : Tab) (G : Gam) (ops : List Oper) (o : Oper) (st : St) : Option (Upd × List Res) :=
  let go (rs : List Res) : Option (Upd × List Res) := match stepC tab G o st with
    | some (.ret c u) => cond (chkB c) (some (u, rs)) none
    | some (.call _ _ F u) => F.map fun r => (u r, rs)
    | none => none
  match o.guard with
  | none => go (reads st o)
  | some (g, want) => match guardT ops g with
    | none => none
    | some t => match (st.env t).av with
      | .dat .bool b => cond (eqW b want) (go (.tmp t :: reads st o)) (some (skipU o, [.tmp t]))
      | .skp => some (skipU o, [.tmp t])
      | _ => none
def runT (tab : Tab) (G : Gam) (ops : List Oper) : List Oper → St → Option (St × List FP)
  | [], st => some (st, [])
  | o :: rest, st => match oneU tab G ops o st with
    | some (u, rs) => (runT tab G ops rest (apply st u)).map fun x => (x.1, ⟨tagRes u ++ rs, u.writes⟩ :: x.2)
    | none => none

def Alike (st st' : St) : Prop := ∃ f, st = { st' with kn := f }
theorem Alike.refl (st : St) : Alike st st := ⟨st.kn, rfl⟩
theorem Alike.apply {st st' : St} (h : Alike st st') (u : Upd) (t : Option Tmp) (b : Bool) : Alike (setKn (Den.apply st u) t b) (Den.apply st' u) := by
  obtain ⟨f, rfl⟩ := h
  exact ⟨_, rfl⟩
theorem Alike.setKn {st st' : St} (h : Alike st st') (t : Option Tmp) (b : Bool) : Alike (Den.setKn st t b) st' := by
  obtain ⟨f, rfl⟩ := h
  exact ⟨_, rfl⟩
theorem Alike.setAV {st st' : St} (h : Alike st st') {t : Tmp} {v : AV} (hv : (st'.env t).av = v) : Alike (Den.setAV st t v) st' := by
  obtain ⟨f, rfl⟩ := h
  have := setAV_self hv
  refine ⟨f, ?_⟩
  have e : Den.setAV { st' with kn := f } t v = { Den.setAV st' t v with kn := f } := rfl
  rw [e, this]
theorem Alike.env {st st' : St} (h : Alike st st') : st.env = st'.env := by obtain ⟨f, rfl⟩ := h; rfl
theorem Alike.step {st st' : St} (h : Alike st st') : stepC tab G o st = stepC tab G o st' := by
  obtain ⟨f, rfl⟩ := h
  have e1 : ∀ x, ({ st' with kn := f } : St).ent x = st'.ent x := fun x => by cases x <;> rfl
  have e2 : ∀ x p, ({ st' with kn := f } : St).ownOp x p = st'.ownOp x p := fun x p => by cases x <;> rfl
  have e3 : ∀ x ps, ({ st' with kn := f } : St).owned x ps = st'.owned x ps := fun x ps => by
    induction ps with
    | nil => rfl
    | cons p ps ih => simp only [St.owned, e2, ih]
  have e4 : ∀ x, ({ st' with kn := f } : St).owner x = st'.owner x := fun x => by cases x <;> rfl
  have e5 : ∀ (ps : List (Nat × Operand)) t z, fillP { st' with kn := f } t z ps = fillP st' t z ps := fun ps => by
    induction ps with
    | nil => intros; rfl
    | cons q ps ih => obtain ⟨i, x⟩ := q; intro t z; simp only [fillP, e1, ih]
  have e6 : ∀ (ps : List (Nat × Operand)) e z, fillS { st' with kn := f } e z ps = fillS st' e z ps := fun ps => by
    induction ps with
    | nil => intros; rfl
    | cons q ps ih => obtain ⟨i, x⟩ := q; intro e z; simp only [fillS, e1, ih]
  have e7 : ∀ (ps : List (Nat × Operand)) (qs : List (List Nat)), ({ st' with kn := f } : St).builtOwn ps qs = st'.builtOwn ps qs := fun ps qs => by
    induction qs with
    | nil => rfl
    | cons q qs ih =>
      cases q with
      | nil => simp only [St.builtOwn]; exact ih
      | cons i p => simp only [St.builtOwn, e2, ih]
  have e8 : ∀ x, avOpt ({ st' with kn := f } : St) x = avOpt st' x := fun x => by cases x <;> simp only [avOpt, e1]
  have em : ∀ x, mkD ({ st' with kn := f } : St) x = mkD st' x := fun x => by cases x <;> rfl
  have ef : ∀ x, freeD ({ st' with kn := f } : St) x = freeD st' x := fun x => by cases x <;> rfl
  have eo : ∀ b p qs, ({ st' with kn := f } : St).ownedB b p qs = st'.ownedB b p qs := fun b p qs => by
    induction qs with
    | nil => rfl
    | cons q qs ih => simp only [St.ownedB, ih]
  have ea : ∀ r p, ({ st' with kn := f } : St).atX r p = st'.atX r p := fun _ _ => rfl
  have ex : ∀ av, argX ({ st' with kn := f } : St) av = argX st' av := fun av => by cases av <;> rfl
  have es : ∀ e ps, starPart ({ st' with kn := f } : St) e ps = starPart st' e ps := fun _ _ => rfl
  have et : ∀ e l y, starApp ({ st' with kn := f } : St) e l y = starApp st' e l y := fun _ _ _ => rfl
  have ey : ∀ l, anyX ({ st' with kn := f } : St) l = anyX st' l := fun l => by
    induction l with
    | nil => rfl
    | cons x l ih => simp only [anyX, e1, ih]
  unfold stepC
  cases o.op with
  | move x => simp only [stAssignM, stMove, e1, e3, e4, em]
  | assign x => simp only [stAssignM, stAssign, e1, e3, e4, em]
  | pick x y z => simp only [stPick, e1]
  | alloc e => simp only [stAlloc, stAllocX, em, ef]
  | box e x => simp only [stBox, stBoxX, e1, e3, ef, ea]
  | build t ps => simp only [stBuild, e5, e7]
  | buildSlice t k ps => simp only [stBuildSlice, e6, es]
  | load t x => simp only [stLoad, stLoadX, stLoadP, e1, ea, em, eo]
  | store t x v => simp only [stStore, stStoreX, stGraftX, stPutX, e1, e3, ea]
  | nilCheck x => simp only [e1]
  | binOp op xt x y yt => simp only [stBin, e1]
  | unOp op t x => simp only [stUn, e1]
  | convert s t x => simp only [stConv, stConvX, ea, e1]
  | makeSlice t x y => simp only [stMakeSlice, stMakeX, e1, em, ef]
  | slice t x lo hi mx => simp only [stSlice, stSliceX, e1, e3, e8, ef]
  | fieldAddr s x f => simp only [stFieldAddr, stFieldAddrX, stFieldAddrC, e1, ea]
  | field s x f => simp only [stField, e1]
  | indexAddr t x i => simp only [stIndexAddr, stIndexAddrX, e1, ea]
  | index t x i => simp only [stIndex, e1]
  | extract x i => simp only [stExtract, stExtractX, e1, e3, em]
  | call cl => simp only [stCall, stCallF, stCallX, stLen, stLenX, stAppend, stAppendX, stAppendT, e3, ex, ef, em, stMinMax, e1, e4, em, ef, ea, ex, ey, et]
  | _ => rfl
theorem Alike.reads {st st' : St} (h : Alike st st') : Den.reads st o = Den.reads st' o := by
  obtain ⟨f, rfl⟩ := h
  have : ∀ l, readsL { st' with kn := f } l = readsL st' l := fun l => by
    induction l with
    | nil => rfl
    | cons x l ih => simp only [readsL, ih]; cases x <;> rfl
  have e : exNo { st' with kn := f } o.dst o.op = exNo st' o.dst o.op := by
    cases o.op with
    | extract x i => cases x <;> cases o.dst <;> rfl
    | _ => rfl
  have e2 : mvNo { st' with kn := f } o.op = mvNo st' o.op := by
    cases o.op with
    | move x => cases x <;> rfl
    | _ => rfl
  have e3 : ∀ t, readsM { st' with kn := f } t = readsM st' t := fun _ => rfl
  unfold Den.reads
  rw [this, e, e2]
  simp only [e3]

theorem opsK_runT {R : Type} {ops : List Oper} : ∀ {rest : List Oper} {i : Nat} {st st2 : St} {k : St → Option R} {r : R}, Alike st st2 → opsK tab G ops rest i st k = some r → ∃ st' fs st3, runT tab G ops rest st2 = some (st', fs) ∧ Alike st3 st' ∧ k st3 = some r := by
  intro rest
  induction rest with
  | nil => intro i st st2 k r hA h; exact ⟨st2, [], st, rfl, hA, h⟩
  | cons o rest ih =>
    intro i st st2 k r hA h
    have go : ∀ {st : St} {c : Comp} {rs : List Res} {t : Option Tmp} {b : Bool}, Alike st st2 → c.runK st (fun st' => opsK tab G ops rest (Nat.succ i) (setKn st' t b) k) = some r →
        ∃ u, (match c with | .ret c u => cond (chkB c) (some (u, rs)) none | .call _ _ F u => F.map fun r => (u r, rs)) = some (u, rs) ∧ ∃ st' fs st3, runT tab G ops rest (apply st2 u) = some (st', fs) ∧ Alike st3 st' ∧ k st3 = some r := by
      intro st c rs t b hA hc
      cases c with
      | ret c u =>
        cases c with
        | none => exact ⟨u, rfl, ih (hA.apply u t b) hc⟩
        | some c =>
          cases c with
          | false => cases hc
          | true => exact ⟨u, rfl, ih (hA.apply u t b) hc⟩
      | call rt rdt F u =>
        cases F with
        | none => cases hc
        | some x => exact ⟨u x, rfl, ih (hA.apply (u x) t b) hc⟩
    simp only [opsK] at h
    simp only [runT, oneU]
    cases hg : o.guard with
    | none =>
      rw [hg] at h; simp only [] at h ⊢
      rw [hA.step] at h
      cases hc : stepC tab G o st2 with
      | none => rw [hc] at h; cases h
      | some c =>
        rw [hc] at h
        obtain ⟨u, h1, st', fs, st3, h2, h3, h4⟩ := go (rs := reads st2 o) hA h
        refine ⟨st', ⟨tagRes u ++ reads st2 o, u.writes⟩ :: fs, st3, ?_, h3, h4⟩
        cases c <;> simp only [] at h1 ⊢ <;> rw [h1] <;> simp [h2]
    | some gw =>
      obtain ⟨g, want⟩ := gw
      rw [hg] at h; simp only [] at h ⊢
      cases hgt : guardT ops g with
      | none => rw [hgt] at h; cases h
      | some t =>
        rw [hgt] at h; simp only [] at h ⊢
        have skip : ∀ {st : St}, Alike st st2 → opsK tab G ops rest (Nat.succ i) (setKn (apply st (skipU o)) o.dst false) k = some r → ∃ st' fs st3, (match (some (skipU o, [Res.tmp t]) : Option (Upd × List Res)) with
            | some (u, rs) => (runT tab G ops rest (apply st2 u)).map fun x => (x.1, (⟨tagRes u ++ rs, u.writes⟩ : FP) :: x.2)
            | none => none) = some (st', fs) ∧ Alike st3 st' ∧ k st3 = some r := by
          intro st hA hk
          obtain ⟨st', fs, st3, h2, h3, h4⟩ := ih (hA.apply (skipU o) o.dst false) hk
          exact ⟨st', ⟨[.tmp t], (skipU o).writes⟩ :: fs, st3, by simp [h2, show tagRes (skipU o) = [] from rfl], h3, h4⟩
        have step : ∀ {st : St}, Alike st st2 → (match stepC tab G o st with
            | some c => c.runK st fun st' => opsK tab G ops rest (Nat.succ i) (setKn st' o.dst (knOf o st)) k
            | none => none) = some r → ∃ st' fs st3, (match (match stepC tab G o st2 with
              | some (.ret c u) => cond (chkB c) (some (u, Res.tmp t :: reads st2 o)) none
              | some (.call _ _ F u) => F.map fun r => (u r, Res.tmp t :: reads st2 o)
              | none => none : Option (Upd × List Res)) with
            | some (u, rs) => (runT tab G ops rest (apply st2 u)).map fun x => (x.1, (⟨tagRes u ++ rs, u.writes⟩ : FP) :: x.2)
            | none => none) = some (st', fs) ∧ Alike st3 st' ∧ k st3 = some r := by
          intro st hA hk
          rw [hA.step] at hk
          cases hc : stepC tab G o st2 with
          | none => rw [hc] at hk; cases hk
          | some c =>
            rw [hc] at hk
            obtain ⟨u, h1, st', fs, st3, h2, h3, h4⟩ := go (rs := Res.tmp t :: reads st2 o) hA hk
            refine ⟨st', ⟨tagRes u ++ Res.tmp t :: reads st2 o, u.writes⟩ :: fs, st3, ?_, h3, h4⟩
            cases c <;> simp only [] at h1 ⊢ <;> rw [h1] <;> simp [h2]
        rw [hA.env] at h
        cases hav : (st2.env t).av with
        | dat ty b =>
          rw [hav] at h
          cases ty <;> try (simp only [] at h; cases h; done)
          simp only [] at h ⊢
          have hset := hA.setAV hav
          cases b with
          | true =>
            cases hkn : st.kn t with
            | true =>
              rw [hkn] at h
              have h : cnd want _ _ = some r := h
              cases want with
              | true => exact step hA h
              | false => exact skip hA h
            | false =>
              rw [hkn] at h
              have h : cnd want _ _ = some r := h
              cases want with
              | true => exact step (hset.setKn _ _) h
              | false => exact skip (hset.setKn _ _) h
          | false =>
            cases hkn : st.kn t with
            | true =>
              rw [hkn] at h
              have h : cnd want _ _ = some r := h
              cases want with
              | true => exact skip hA h
              | false => exact step hA h
            | false =>
              rw [hkn] at h
              have h : cnd want _ _ = some r := h
              cases want with
              | true => exact skip (hset.setKn _ _) h
              | false => exact step (hset.setKn _ _) h
        | skp => rw [hav] at h; exact skip hA h
        | _ => rw [hav] at h; simp only [] at h; cases h
theorem drawK_runT {R : Type} {ops : List Oper} : ∀ {rest : List Oper} {i : Nat} {st st2 : St} {acc : List FP} {k : St → List FP → Option R} {r : R}, Alike st st2 → drawK tab G ops rest i st acc k = some r → ∃ st' fs st3, runT tab G ops rest st2 = some (st', fs) ∧ Alike st3 st' ∧ k st3 (acc ++ fs) = some r := by
  intro rest
  induction rest with
  | nil => intro i st st2 acc k r hA h; exact ⟨st2, [], st, rfl, hA, by simpa [drawK] using h⟩
  | cons o rest ih =>
    intro i st st2 acc k r hA h
    have go : ∀ {st : St} {c : Comp} {rs : List Res} {t : Option Tmp} {b : Bool}, Alike st st2 → c.runT st rs (fun st' f => drawK tab G ops rest (Nat.succ i) (setKn st' t b) (acc ++ [f]) k) = some r →
        ∃ u, (match c with | .ret c u => cond (chkB c) (some (u, rs)) none | .call _ _ F u => F.map fun r => (u r, rs)) = some (u, rs) ∧ ∃ st' fs st3, runT tab G ops rest (apply st2 u) = some (st', fs) ∧ Alike st3 st' ∧ k st3 ((acc ++ [⟨tagRes u ++ rs, u.writes⟩]) ++ fs) = some r := by
      intro st c rs t b hA hc
      cases c with
      | ret c u =>
        cases c with
        | none => exact ⟨u, rfl, ih (hA.apply u t b) hc⟩
        | some c =>
          cases c with
          | false => cases hc
          | true => exact ⟨u, rfl, ih (hA.apply u t b) hc⟩
      | call rt rdt F u =>
        cases F with
        | none => cases hc
        | some x => exact ⟨u x, rfl, ih (hA.apply (u x) t b) hc⟩
    simp only [drawK] at h
    simp only [runT, oneU]
    cases hg : o.guard with
    | none =>
      rw [hg] at h; simp only [] at h ⊢
      rw [hA.step, hA.reads] at h
      cases hc : stepC tab G o st2 with
      | none => rw [hc] at h; cases h
      | some c =>
        rw [hc] at h
        obtain ⟨u, h1, st', fs, st3, h2, h3, h4⟩ := go (rs := reads st2 o) hA h
        refine ⟨st', ⟨tagRes u ++ reads st2 o, u.writes⟩ :: fs, st3, ?_, h3, by simpa using h4⟩
        cases c <;> simp only [] at h1 ⊢ <;> rw [h1] <;> simp [h2]
    | some gw =>
      obtain ⟨g, want⟩ := gw
      rw [hg] at h; simp only [] at h ⊢
      cases hgt : guardT ops g with
      | none => rw [hgt] at h; cases h
      | some t =>
        rw [hgt] at h; simp only [] at h ⊢
        have skip : ∀ {st : St}, Alike st st2 → drawK tab G ops rest (Nat.succ i) (setKn (apply st (skipU o)) o.dst false) (acc ++ [⟨[.tmp t], (skipU o).writes⟩]) k = some r → ∃ st' fs st3, (match (some (skipU o, [Res.tmp t]) : Option (Upd × List Res)) with
            | some (u, rs) => (runT tab G ops rest (apply st2 u)).map fun x => (x.1, (⟨tagRes u ++ rs, u.writes⟩ : FP) :: x.2)
            | none => none) = some (st', fs) ∧ Alike st3 st' ∧ k st3 (acc ++ fs) = some r := by
          intro st hA hk
          obtain ⟨st', fs, st3, h2, h3, h4⟩ := ih (hA.apply (skipU o) o.dst false) hk
          exact ⟨st', ⟨[.tmp t], (skipU o).writes⟩ :: fs, st3, by simp [h2, show tagRes (skipU o) = [] from rfl], h3, by simpa using h4⟩
        have step : ∀ {st : St}, Alike st st2 → (match stepC tab G o st with
            | some c => c.runT st (.tmp t :: reads st o) fun st' f => drawK tab G ops rest (Nat.succ i) (setKn st' o.dst (knOf o st)) (acc ++ [f]) k
            | none => none) = some r → ∃ st' fs st3, (match (match stepC tab G o st2 with
              | some (.ret c u) => cond (chkB c) (some (u, Res.tmp t :: reads st2 o)) none
              | some (.call _ _ F u) => F.map fun r => (u r, Res.tmp t :: reads st2 o)
              | none => none : Option (Upd × List Res)) with
            | some (u, rs) => (runT tab G ops rest (apply st2 u)).map fun x => (x.1, (⟨tagRes u ++ rs, u.writes⟩ : FP) :: x.2)
            | none => none) = some (st', fs) ∧ Alike st3 st' ∧ k st3 (acc ++ fs) = some r := by
          intro st hA hk
          rw [hA.step, hA.reads] at hk
          cases hc : stepC tab G o st2 with
          | none => rw [hc] at hk; cases hk
          | some c =>
            rw [hc] at hk
            obtain ⟨u, h1, st', fs, st3, h2, h3, h4⟩ := go (rs := Res.tmp t :: reads st2 o) hA hk
            refine ⟨st', ⟨tagRes u ++ Res.tmp t :: reads st2 o, u.writes⟩ :: fs, st3, ?_, h3, by simpa using h4⟩
            cases c <;> simp only [] at h1 ⊢ <;> rw [h1] <;> simp [h2]
        rw [hA.env] at h
        cases hav : (st2.env t).av with
        | dat ty b =>
          rw [hav] at h
          cases ty <;> try (simp only [] at h; cases h; done)
          simp only [] at h ⊢
          have hset := hA.setAV hav
          cases b with
          | true =>
            cases hkn : st.kn t with
            | true =>
              rw [hkn] at h
              have h : cnd want _ _ = some r := h
              cases want with
              | true => exact step hA h
              | false => exact skip hA h
            | false =>
              rw [hkn] at h
              have h : cnd want _ _ = some r := h
              cases want with
              | true => exact step (hset.setKn _ _) h
              | false => exact skip (hset.setKn _ _) h
          | false =>
            cases hkn : st.kn t with
            | true =>
              rw [hkn] at h
              have h : cnd want _ _ = some r := h
              cases want with
              | true => exact skip hA h
              | false => exact step hA h
            | false =>
              rw [hkn] at h
              have h : cnd want _ _ = some r := h
              cases want with
              | true => exact skip (hset.setKn _ _) h
              | false => exact step (hset.setKn _ _) h
        | skp => rw [hav] at h; exact skip hA h
        | _ => rw [hav] at h; simp only [] at h; cases h

theorem one_sound (hT : TabOk P tab) (hG : GamOk P G) {ops : Array Oper} (h : Sim w0 lim0 rb n st a w lim β) (hrb : ∀ k, some k = rb → k < w0.heap.size) (hd : ∀ d, o.dst = some d → d < n) {u : Upd} {rs : List Res} (hu : oneU tab G ops.toList o st = some (u, rs))
    (K : Act → World → Prop) (Q : Exit → Act → World → Prop) (hK : ∀ a' w' lim' β', Sim w0 lim0 rb n (apply st u) a' w' lim' β' → K a' w') :
    if Region.wanted o (yielded ops a.tmps) = true then o.wp P a w K Q else K (a.put o.dst undef) w := by
  have go : ∀ {rs' : List Res}, (match stepC tab G o st with
      | some (.ret c u) => cond (chkB c) (some (u, rs')) none
      | some (.call _ _ F u) => F.map fun r => (u r, rs')
      | none => none : Option (Upd × List Res)) = some (u, rs) → o.wp P a w K Q := by
    intro rs' hgo
    cases hc : stepC tab G o st with
    | none => rw [hc] at hgo; cases hgo
    | some c =>
      rw [hc] at hgo
      have hout : c.out st = some (apply st u) := by
        cases c with
        | ret c u' =>
          simp only [Comp.out]
          cases hck : chkB c with
          | false => simp only [hck] at hgo; cases hgo
          | true => simp only [hck] at hgo; injection hgo with hgo; injection hgo with hgo _; subst hgo; rfl
        | call rt rdt F u' =>
          cases F with
          | none => cases hgo
          | some r => injection hgo with hgo; injection hgo with hgo _; subst hgo; rfl
      exact step_ok hT hG h hrb hd hc hout K Q hK
  have skip : (some (skipU o, rs) : Option (Upd × List Res)) = some (u, rs) → K (a.put o.dst undef) w := by
    intro hs
    injection hs with hs; injection hs with hs _; subst hs
    exact hK _ _ _ _ (h.plain _ _ _ hd rfl)
  unfold oneU at hu
  cases hg : o.guard with
  | none =>
    rw [hg] at hu
    rw [if_pos (by simp [Region.wanted, hg])]
    exact go hu
  | some gw =>
    obtain ⟨g, want⟩ := gw
    rw [hg] at hu; simp only [] at hu
    cases hgt : guardT ops.toList g with
    | none => rw [hgt] at hu; cases hu
    | some t =>
      rw [hgt] at hu; simp only [] at hu
      have ht := h.env t
      cases hav : (st.env t).av with
      | dat ty b =>
        rw [hav] at hu ht
        cases ty <;> try (simp only [] at hu; cases hu; done)
        simp only [] at hu
        have hv := bool_rep ht
        have hy := yielded_bool (ops := ops) hgt hv
        have hwt : Region.wanted o (yielded ops a.tmps) = eqW b want := by
          unfold Region.wanted eqW
          rw [hg]
          show (yielded ops a.tmps g == some want) = _
          rw [hy]
          exact Option.some_beq_some
        cases hq : eqW b want with
        | true =>
          rw [hq] at hu hwt
          rw [if_pos hwt]
          exact go hu
        | false =>
          rw [hq] at hu hwt
          rw [if_neg (by rw [hwt]; simp)]
          injection hu with hu; injection hu with h1 h2; subst h1; subst h2
          exact skip rfl
      | skp =>
        rw [hav] at hu ht
        have hy := yielded_skip (ops := ops) hgt ht
        rw [if_neg (by simp [Region.wanted, hg, hy])]
        injection hu with hu; injection hu with h1 h2; subst h1; subst h2
        exact skip rfl
      | _ => rw [hav] at hu; simp only [] at hu; cases hu

theorem opsDst_mem {m : Nat} : ∀ {os : List Oper}, opsDst m os = true → ∀ o ∈ os, ∀ d, o.dst = some d → d < m
  | [], _, o, ho, _, _ => by cases ho
  | x :: os, h, o, ho, d, hd => by
    simp only [opsDst] at h
    have h2 : opsDst m os = true ∧ ∀ d, x.dst = some d → d < m := by
      cases hx : x.dst with
      | none => rw [hx] at h; exact ⟨h, fun d hd => by cases hd⟩
      | some e =>
        rw [hx] at h; simp only [] at h
        cases hb : Nat.blt e m with
        | false => rw [hb] at h; cases h
        | true => rw [hb] at h; exact ⟨h, fun d hd => by injection hd with hd; subst hd; simpa [Nat.blt_eq] using hb⟩
    rcases List.mem_cons.1 ho with rfl | ho
    · exact h2.2 d hd
    · exact opsDst_mem h2.1 o ho d hd

theorem run_sound (hT : TabOk P tab) (hG : GamOk P G) {ops : Array Oper} {Q : Exit → Act → World → Prop} (hrb : ∀ k, some k = rb → k < w0.heap.size) : ∀ {rest : List Oper} {st : St} {a : Act} {w : World} {lim : Lim} {β : Mp} {fs : List FP},
    runT tab G ops.toList rest st = some (st', fs) → (∀ o ∈ rest, ∀ d, o.dst = some d → d < n) → Sim w0 lim0 rb n st a w lim β → (∀ a' w' lim' β', Sim w0 lim0 rb n st' a' w' lim' β' → Q .normal a' w') → wpList P ops Q rest a w := by
  intro rest
  induction rest with
  | nil =>
    intro st a w lim β fs hr _ h hQ
    injection hr with hr; injection hr with h1 _; subst h1
    exact hQ _ _ _ _ h
  | cons o rest ih =>
    intro st a w lim β fs hr hd h hQ
    simp only [runT] at hr
    cases hu : oneU tab G ops.toList o st with
    | none => rw [hu] at hr; cases hr
    | some ur =>
      obtain ⟨u, rs⟩ := ur
      rw [hu] at hr; simp only [] at hr
      cases hrest : runT tab G ops.toList rest (apply st u) with
      | none => rw [hrest] at hr; cases hr
      | some sf =>
        obtain ⟨s', fs'⟩ := sf
        rw [hrest] at hr
        injection hr with hr; injection hr with h1 _; subst h1
        have := one_sound (ops := ops) hT hG h hrb (hd o (by simp)) hu (wpList P ops Q rest) Q (fun a' w' lim' β' hs => ih hrest (fun o' ho' => hd o' (by simp [ho'])) hs hQ)
        unfold wpList
        split
        · rename_i hw; rw [if_pos hw] at this; exact .inl this
        · rename_i hw; rw [if_neg hw] at this; exact this
end
end Go.Den

namespace Go.Den
section
variable {P : Program} {tab : Tab} {G : Gam}
variable {st st' : St} {o : Oper} {c : Comp}

structure Look (st st' : St) (x : Operand) : Prop where
  ent : st'.ent x = st.ent x
  own : ∀ p, st'.ownOp x p = st.ownOp x p
  box : ∀ b p, (st.ent x).av = .cel b p → st'.box b = st.box b ∧ ∀ q, st'.own (.box b q) = st.own (.box b q)
  rd : ∀ p, (st.ent x).av = .rdr p → st'.rd = st.rd
  tag : ∀ k l, (st.ent x).tag = some (k, l) → st'.own l = st.own l ∧ st'.own (starL l) = st.own (starL l)
  tr : ∀ r, Res.box r ∈ avRes (st.ent x).av → st'.io r = st.io r
  tb : ∀ b p, (st.ent x).av = .cx b p → st'.xb b = st.xb b
  tx : ∀ b p t r q, (st.ent x).av = .cx b p → st.xb b = some (t, some (r, q)) → st'.io r = st.io r
theorem atX_eq {r : Tmp} (h : st'.io r = st.io r) (p : List Nat) : st'.atX r p = st.atX r p := by unfold St.atX; rw [h]
theorem Look.argX {x : Operand} (h : Look st st' x) : Den.argX st' (st.ent x).av = Den.argX st (st.ent x).av := by
  cases hav : (st.ent x).av with
  | xf r p => simp only [Den.argX, atX_eq (h.tr r (by rw [hav]; simp [avRes])) p]
  | _ => rfl
theorem anyX_local : ∀ {l : List Operand}, (∀ x ∈ l, Look st st' x) → anyX st' l = anyX st l
  | [], _ => rfl
  | x :: l, h => by
    have hl := anyX_local (l := l) fun y hy => h y (List.mem_cons_of_mem _ hy)
    simp only [anyX, (h x (by simp)).ent, hl]

theorem Look.owned {x : Operand} (h : Look st st' x) : ∀ ps, st'.owned x ps = st.owned x ps
  | [] => rfl
  | p :: ps => by simp only [St.owned, h.own, h.owned ps]
theorem Look.owner {x : Operand} (h : Look st st' x) : st'.owner x = st.owner x := by
  cases x with
  | tmp t =>
    have h1 := h.own []
    have h2 : st'.env t = st.env t := h.ent
    simp only [St.ownOp] at h1
    simp only [St.owner, h1, h2]
    cases hq : (st.env t).tag with
    | none => rfl
    | some kl =>
      obtain ⟨k, l⟩ := kl
      have := (h.tag k l hq).1
      cases k <;> simp [this]
  | const _ => rfl
  | global _ => rfl
  | func _ => rfl

theorem Look.ownerStar {x : Operand} (h : Look st st' x) {l : Loc} (hl : st.owner x = some (some l)) : st'.own (starL l) = st.own (starL l) := by
  cases x with
  | tmp t =>
    simp only [St.owner] at hl
    cases hot : st.own (.tmp t []) with
    | true =>
      rw [hot] at hl; simp only [cnd_true] at hl
      injection hl with hl; injection hl with hl; subst hl
      exact h.own [0]
    | false =>
      rw [hot] at hl; simp only [cnd_false] at hl
      cases hq : (st.env t).tag with
      | none => rw [hq] at hl; cases hl
      | some kl =>
        obtain ⟨k, l'⟩ := kl
        rw [hq] at hl
        cases k with
        | false => cases hl
        | true =>
          simp only [] at hl
          cases hol : st.own l' with
          | false => rw [hol] at hl; cases hl
          | true =>
            rw [hol] at hl; simp only [cnd_true] at hl
            injection hl with hl; injection hl with hl; subst hl
            exact (h.tag true l' hq).2
  | const _ => simp [St.owner] at hl
  | global _ => cases hl
  | func _ => cases hl
theorem stAssignM_local {x : Operand} (h : Look st st' x) {c : Comp} : stAssignM o x st' c = stAssignM o x st c := by
  unfold stAssignM
  rw [h.ent, h.owner]
  simp only [h.owned]
  split
  · rename_i l _ hl
    rw [h.ownerStar hl]
  · rfl
  · rfl
theorem allOwn_local {f : List Nat → Loc} (h : ∀ p, st'.own (f p) = st.own (f p)) : ∀ ps, allOwn st'.own f ps = allOwn st.own f ps
  | [] => rfl
  | p :: ps => by simp only [allOwn, h, allOwn_local h ps]
theorem starPart_local {e : Ty} {parts : List (Nat × Operand)} (h : ∀ p ∈ parts, Look st st' p.2) : starPart st' e parts = starPart st e parts := by
  unfold starPart
  split
  · rename_i i s
    have hx := (h (i, .tmp s) (by simp)).own
    rw [allOwn_local (f := (.tmp s ·)) (fun p => hx p)]
  · rfl
theorem starApp_local {e : Ty} {x y : Operand} {ol : Option Loc} (hx : Look st st' x) (hy : Look st st' y) (hl : st.owner x = some ol) : starApp st' e ol y = starApp st e ol y := by
  unfold starApp
  cases y with
  | tmp t =>
    have h1 : st'.own (.tmp t [0]) = st.own (.tmp t [0]) := hy.own [0]
    simp only [h1]
    cases ol with
    | none => rfl
    | some l => simp only [hx.ownerStar hl]
  | _ => rfl

theorem stAppend_local {tab : Tab} {t : TypeId} {x y : Operand} (hx : Look st st' x) (hy : Look st st' y) : stAppend tab o t x y st' = stAppend tab o t x y st := by
  unfold stAppend
  rw [hx.ent, hy.ent, hx.owner]
  cases tab t with
  | none => rfl
  | some ty =>
    cases ty with
    | slice e =>
      cases h : st.owner x with
      | none =>
        simp only []
        cases AV.as (.slice e) (st.ent x).av <;> cases AV.as (.slice e) (st.ent y).av <;> rfl
      | some ol =>
        have hs := starApp_local (e := e) hx hy h
        simp only []
        generalize AV.as (.slice e) (st.ent x).av = ax
        generalize AV.as (.slice e) (st.ent y).av = ay
        cases ax with
        | none => rfl
        | some xs => cases ay with
          | none => rfl
          | some ys => simp only [hs]
    | _ => rfl
theorem fillP_local : ∀ {parts : List (Nat × Operand)} {t : Ty} {z : t.val}, (∀ p ∈ parts, Look st st' p.2) → fillP st' t z parts = fillP st t z parts
  | [], _, _, _ => rfl
  | (i, x) :: ps, t, z, h => by
    have hx := (h (i, x) (by simp)).ent
    simp only [fillP, hx]
    cases getF t z i with
    | none => rfl
    | some d =>
      simp only []
      cases AV.as d.1 (st.ent x).av with
      | none => rfl
      | some v =>
        simp only []
        cases setF t z i ⟨d.1, v⟩ with
        | none => rfl
        | some z' => exact fillP_local fun p hp => h p (by simp [hp])
theorem fillS_local : ∀ {parts : List (Nat × Operand)} {e : Ty} {z : List e.val}, (∀ p ∈ parts, Look st st' p.2) → fillS st' e z parts = fillS st e z parts
  | [], _, _, _ => rfl
  | (i, x) :: ps, e, z, h => by
    have hx := (h (i, x) (by simp)).ent
    simp only [fillS, hx]
    cases AV.as e (st.ent x).av with
    | none => rfl
    | some v => exact fillS_local fun p hp => h p (by simp [hp])
theorem partOf_mem : ∀ {parts : List (Nat × Operand)} {i : Nat} {x : Operand}, partOf i parts = some x → ∃ j, (j, x) ∈ parts
  | [], _, _, h => by cases h
  | (j, y) :: ps, i, x, h => by
    simp only [partOf] at h
    cases hb : Nat.beq i j with
    | true => rw [hb] at h; simp only [cnd_true] at h; injection h with h; subst h; exact ⟨j, by simp⟩
    | false =>
      rw [hb] at h
      obtain ⟨k, hk⟩ := partOf_mem h
      exact ⟨k, by simp [hk]⟩
theorem builtOwn_local {parts : List (Nat × Operand)} (h : ∀ p ∈ parts, Look st st' p.2) : ∀ ps, st'.builtOwn parts ps = st.builtOwn parts ps
  | [] => rfl
  | [] :: ps => by simp only [St.builtOwn]; exact builtOwn_local h ps
  | (i :: p) :: ps => by
    simp only [St.builtOwn, builtOwn_local h ps]
    cases hq : partOf i parts with
    | none => rfl
    | some x =>
      obtain ⟨j, hj⟩ := partOf_mem hq
      simp only [(h _ hj).own]
theorem avOpt_local {x : Option Operand} (h : ∀ y, x = some y → Look st st' y) : avOpt st' x = avOpt st x := by
  cases x with
  | none => rfl
  | some y => simp only [avOpt, (h y rfl).ent]

theorem ownedB_local {b : Tmp} {p : List Nat} (h : ∀ q, st'.own (.box b q) = st.own (.box b q)) : ∀ qs, st'.ownedB b p qs = st.ownedB b p qs
  | [] => rfl
  | q :: qs => by simp only [St.ownedB, h, ownedB_local h qs]

theorem step_local (h : ∀ x ∈ o.op.operands.toList, Look st st' x) (hdx : ∀ d, o.dst = some d → st'.box d = st.box d ∧ st'.io d = st.io d ∧ st'.xb d = st.xb d) (hmk : st'.mkt = st.mkt) : stepC tab G o st' = stepC tab G o st := by
  have hd : ∀ d, o.dst = some d → st'.box d = st.box d := fun d h => (hdx d h).1
  have em : mkD st' o.dst = mkD st o.dst := by cases o.dst <;> simp only [mkD, hmk]
  have ef : freeD st' o.dst = freeD st o.dst := by
    cases hq : o.dst with
    | none => rfl
    | some d => obtain ⟨h1, h2, h3⟩ := hdx d hq; simp only [freeD, h1, h2, h3]
  unfold stepC
  cases hop : o.op with
  | move x =>
    have hx := h x (by simp [hop, Op.operands])
    simp only [stAssignM_local hx, em]
    have : stMove tab o x st' = stMove tab o x st := by
      simp only [stMove, hx.ent]
      cases x with
      | tmp t => have := hx.own []; simp only [St.ownOp] at this; simp only [this]
      | _ => rfl
    rw [this]
  | assign x =>
    have hx := h x (by simp [hop, Op.operands])
    simp only [stAssignM_local hx, stAssign, hx.ent, hx.owned, em]
  | pick x y z =>
    have hx := h x (by simp [hop, Op.operands])
    have hy := h y (by simp [hop, Op.operands])
    have hz := h z (by simp [hop, Op.operands])
    simp only [stPick, hx.ent, hy.ent, hz.ent]
  | alloc e =>
    simp only [em, stAllocX, ef]
    congr 1
    simp only [stAlloc]
    cases tab e with
    | none => rfl
    | some ty =>
      cases hq : o.dst with
      | none => rfl
      | some d => simp only [hd d hq]
  | box e x =>
    have hx := h x (by simp [hop, Op.operands])
    have hb : stBox tab o e x st' = stBox tab o e x st := by
      simp only [stBox]
      cases tab e with
      | none => rfl
      | some ty =>
        cases hq : o.dst with
        | none => rfl
        | some d => simp only [hd d hq, hx.ent, hx.owned]
    simp only [hx.ent, hb]
    cases hav : (st.ent x).av with
    | xf r p => simp only [stBoxX, ef, atX_eq (hx.tr r (by rw [hav]; simp [avRes])) p]
    | _ => rfl
  | build t ps =>
    have hp : ∀ p ∈ ps.toList, Look st st' p.2 := fun p hp => h p.2 (by simp only [hop, Op.operands]; exact List.mem_map.2 ⟨p, hp, rfl⟩)
    simp only [stBuild, fillP_local hp, builtOwn_local hp]
  | buildSlice t k ps =>
    have hp : ∀ p ∈ ps.toList, Look st st' p.2 := fun p hp => h p.2 (by simp only [hop, Op.operands]; exact List.mem_map.2 ⟨p, hp, rfl⟩)
    simp only [stBuildSlice, fillS_local hp, starPart_local hp]
  | load t x =>
    have hx := h x (by simp [hop, Op.operands])
    simp only [stLoad, hx.ent]
    cases hav : (st.ent x).av with
    | cel b p =>
      obtain ⟨h1, h2⟩ := hx.box b p hav
      simp only [h1, h2, em, ownedB_local h2]
    | rdr p => simp only [hx.rd p hav]
    | xp r p k q => simp only [stLoadP, hx.tr r (by rw [hav]; simp [avRes])]
    | cx b p =>
      simp only [stLoadX, hx.tb b p hav]
      split
      · rename_i ty r q hq
        simp only [atX_eq (hx.tx b p ty r q hav hq) q]
      · rfl
    | _ => rfl
  | store t x v =>
    have hx := h x (by simp [hop, Op.operands])
    have hv := h v (by simp [hop, Op.operands])
    simp only [stStore, hx.ent, hv.ent, hv.owned]
    cases hav : (st.ent x).av with
    | cel b p => obtain ⟨h1, h2⟩ := hx.box b p hav; simp only [h1]
    | rdr p => simp only [hx.rd p hav]
    | xp r p k q =>
      have e := hx.tr r (by rw [hav]; simp [avRes])
      have hg : ∀ r2 m, (st.ent v).av = .xf r2 m → stGraftX tab o t r p k q r2 st' = stGraftX tab o t r p k q r2 st := fun r2 m hvv => by
        have e2 := hv.tr r2 (by rw [hvv]; simp [avRes])
        simp only [stGraftX, e, atX_eq e p, atX_eq e2 []]
      have hs : stStoreX tab o t r p k q v st' = stStoreX tab o t r p k q v st := by simp only [stStoreX, e, atX_eq e p, hv.ent]
      cases hvv : (st.ent v).av with
      | xf r2 m => cases m with
        | nil => exact hg r2 [] hvv
        | cons i m => exact hs
      | _ => exact hs
    | cx b p =>
      cases p with
      | cons i p => rfl
      | nil =>
        cases hvv : (st.ent v).av with
        | xf r q => simp only [stPutX, hx.tb b [] hav, atX_eq (hv.tr r (by rw [hvv]; simp [avRes])) q]
        | _ => rfl
    | _ => rfl
  | nilCheck x => simp only [(h x (by simp [hop, Op.operands])).ent]
  | binOp op xt x y yt => simp only [stBin, (h x (by simp [hop, Op.operands])).ent, (h y (by simp [hop, Op.operands])).ent]
  | unOp op t x => simp only [stUn, (h x (by simp [hop, Op.operands])).ent]
  | convert s t x =>
    have hx := h x (by simp [hop, Op.operands])
    simp only [stConv, hx.ent]
    cases hav : (st.ent x).av with
    | xf r p => simp only [stConvX, atX_eq (hx.tr r (by rw [hav]; simp [avRes])) p]
    | _ => rfl
  | makeSlice t x y => simp only [em, stMakeX, ef, stMakeSlice, (h x (by simp [hop, Op.operands])).ent, (h y (by simp [hop, Op.operands])).ent]
  | slice t x lo hi mx =>
    have h1 : ∀ y, lo = some y → Look st st' y := fun y hy => h y (by simp [hop, Op.operands, hy])
    have h2 : ∀ y, hi = some y → Look st st' y := fun y hy => h y (by simp [hop, Op.operands, hy])
    have hx := h x (by simp [hop, Op.operands])
    simp only [hx.ent]
    cases hav : (st.ent x).av with
    | xf r p =>
      have hio : st'.io r = st.io r := hx.tr r (by rw [hav]; simp [avRes])
      cases p <;> cases mx <;> cases lo <;> simp only [stSliceX, hx.ent, hav, hio, ef, avOpt_local h2]
    | _ => simp only [stSlice, hx.ent, avOpt_local h1, avOpt_local h2]
  | fieldAddr s x f =>
    have hx := h x (by simp [hop, Op.operands])
    simp only [stFieldAddr, hx.ent]
    cases hav : (st.ent x).av with
    | cel b p => obtain ⟨h1, h2⟩ := hx.box b p hav; simp only [h1]
    | rdr p => simp only [hx.rd p hav]
    | xp r p k q => simp only [stFieldAddrX, atX_eq (hx.tr r (by rw [hav]; simp [avRes])) p]
    | cx b p =>
      simp only [stFieldAddrC, hx.tb b p hav]
      split
      · rename_i ty r q hq
        simp only [atX_eq (hx.tx b p ty r q hav hq) q]
      · rfl
    | _ => rfl
  | field s x f => simp only [stField, (h x (by simp [hop, Op.operands])).ent]
  | indexAddr t x i =>
    have hx := h x (by simp [hop, Op.operands])
    simp only [stIndexAddr, hx.ent, (h i (by simp [hop, Op.operands])).ent]
    cases hav : (st.ent x).av with
    | xf r p => simp only [stIndexAddrX, atX_eq (hx.tr r (by rw [hav]; simp [avRes])) p, (h i (by simp [hop, Op.operands])).ent]
    | _ => rfl
  | index t x i => simp only [stIndex, (h x (by simp [hop, Op.operands])).ent, (h i (by simp [hop, Op.operands])).ent]
  | extract x i =>
    have hx := h x (by simp [hop, Op.operands])
    simp only [stExtract, hx.ent, hx.owned, em]
    cases hav : (st.ent x).av with
    | xt r => simp only [stExtractX, hx.tr r (by rw [hav]; simp [avRes])]
    | _ => rfl
  | call cl =>
    have ha : ∀ x ∈ cl.args.toList, Look st st' x := fun x hx => h x (by simp only [hop, Op.operands, Call.operands]; simp; right; simpa using hx)
    have hm : (cl.args.toList.map fun x => (st'.ent x).av) = cl.args.toList.map fun x => (st.ent x).av := List.map_congr_left fun x hx => by rw [(ha x hx).ent]
    have hCall : ∀ f, stCall G o f cl.args.toList st' = stCall G o f cl.args.toList st := by
      intro f
      simp only [stCall, hm]
      cases G f with
      | none => rfl
      | some s =>
        simp only []
        cases hmu : s.muts with
        | true => rfl
        | false =>
        simp only [cnd_false]
        cases hfv : isF s.fv with
        | true => rfl
        | false =>
        simp only [cnd_false]
        have hrdv : ∀ (l : List Operand), (∀ x ∈ l, Look st st' x) → (∀ p, rdrOf (l.map fun x => (st.ent x).av) = some (.rdr p) → st'.rd = st.rd) ∧ (∀ b p, rdrOf (l.map fun x => (st.ent x).av) = some (.cel b p) → st'.box b = st.box b) := by
          intro l
          induction l with
          | nil => intro _; exact ⟨fun p hh => (by cases hh), fun b p hh => (by cases hh)⟩
          | cons y l ih =>
            intro hl
            obtain ⟨i1, i2⟩ := ih (fun x hx => hl x (by simp [hx]))
            simp only [List.map_cons]
            cases hav : (st.ent y).av with
            | rdr p => exact ⟨fun q hh => (hl y (by simp)).rd p hav, fun b q hh => (by injection hh with hh; cases hh)⟩
            | cel b p => exact ⟨fun q hh => (by injection hh with hh; cases hh), fun c q hh => (by injection hh with hh; injection hh with hh _; subst hh; exact ((hl y (by simp)).box b p hav).1)⟩
            | _ => exact ⟨i1, i2⟩
        obtain ⟨q1, q2⟩ := hrdv _ ha
        cases s.usesRd with
        | true =>
          cases s.opens with
          | true => rfl
          | false =>
            simp only []
            cases hr : rdrOf (cl.args.toList.map fun x => (st.ent x).av) with
            | none => rfl
            | some rv =>
              cases rv with
              | rdr p => cases p <;> simp only [q1 _ hr]
              | cel b p => cases p <;> simp only [q2 b _ hr]
              | _ => rfl
        | false =>
          cases s.opens with
          | false => rfl
          | true =>
            simp only []
            cases hq : o.dst with
            | none => cases packArgs none s.aty (cl.args.toList.map fun x => (st.ent x).av) <;> cases Ty.unit.cast s.rdty () <;> rfl
            | some d =>
              have e := hd d hq
              cases packArgs none s.aty (cl.args.toList.map fun x => (st.ent x).av) with
              | none => rfl
              | some x =>
                cases Ty.cast .unit s.rdty () with
                | none => rfl
                | some rd =>
                  show (match st'.box d with | none => _ | some _ => none) = (match st.box d with | none => _ | some _ => none)
                  rw [e]
    simp only []
    split
    · rename_i f hcal
      have hmx : (cl.args.toList.map fun x => argX st' (st'.ent x).av) = cl.args.toList.map fun x => argX st (st.ent x).av := List.map_congr_left fun x hx => by rw [(ha x hx).ent, (ha x hx).argX]
      have hFF : stCallF G o f cl.args.toList st' = stCallF G o f cl.args.toList st := by simp only [stCallF, hm]
      rw [anyX_local ha, em, hFF]
      congr 1
      have hX : stCallX G o f cl.args.toList st' = stCallX G o f cl.args.toList st := by
        simp only [stCallX, hmx, em, ef]
        cases G f with
        | none => rfl
        | some s =>
          simp only []
          cases hfv : isF s.fv with
          | true => rfl
          | false =>
          simp only [cnd_false]
          split
          · rfl
          · cases hl : cl.args.toList with
            | nil => rfl
            | cons x0 xs =>
              have hx0 := ha x0 (by rw [hl]; simp)
              have hms : (xs.map fun x => (st'.ent x).av) = xs.map fun x => (st.ent x).av := List.map_congr_left fun x hx => by rw [(ha x (by rw [hl]; simp [hx])).ent]
              simp only [hx0.ent, hms]
              cases hav : (st.ent x0).av with
              | xf r p =>
                have e := hx0.tr r (by rw [hav]; simp [avRes])
                simp only [e, atX_eq e p]
              | xe k q =>
                have e := hx0.tr 0 (by rw [hav]; simp [avRes])
                simp only [e]
              | _ => rfl
          · rfl
      rw [hX]
      congr 1
      exact hCall f
    · rename_i t hcal
      have e : st'.env t = st.env t := (h (.tmp t) (by simp [hop, Op.operands, Call.operands, hcal])).ent
      rw [e]
      split
      · rename_i f _; exact hCall f
      · rfl
    · split
      · rename_i x t hx ht
        have hxx := ha x (by simp [hx])
        simp only [stLen, hxx.ent]
        cases hav : (st.ent x).av with
        | xf r p => simp only [stLenX, atX_eq (hxx.tr r (by rw [hav]; simp [avRes])) p]
        | _ => rfl
      · rfl
    · split
      · rename_i x y t t' hx ht
        have hxx := ha x (by simp [hx])
        simp only [hxx.ent]
        cases hav : (st.ent x).av with
        | xf r p =>
          have hio : st'.io r = st.io r := hxx.tr r (by rw [hav]; simp [avRes])
          cases p with
          | nil =>
            unfold stAppendT
            rw [hxx.ent, hav]
            dsimp only
            rw [hio, ef, (ha y (by simp [hx])).ent, (ha y (by simp [hx])).argX]
          | cons => simp only [stAppendT, hxx.ent, hav]
        | _ => simp only [stAppend_local hxx (ha y (by simp [hx])), stAppendX, em, ef, (ha y (by simp [hx])).argX, hxx.ent, (ha y (by simp [hx])).ent, hxx.owner]
      · rfl
    · split
      · rename_i x y hx
        simp only [stMinMax, (ha x (by simp [hx])).ent, (ha y (by simp [hx])).ent]
      · rfl
    · split
      · rename_i x y hx
        simp only [stMinMax, (ha x (by simp [hx])).ent, (ha y (by simp [hx])).ent]
      · rfl
    · rfl
  | _ => rfl

/-! ### operations that do not touch each other -/
theorem Res.beq_iff {r s : Res} : Res.beq r s = true ↔ r = s := by
  cases r <;> cases s <;> simp [Res.beq, Nat.beq_eq]
theorem hit_iff {r : Res} : ∀ {ss : List Res}, hit r ss = true ↔ r ∈ ss
  | [] => by simp [hit]
  | s :: ss => by
    cases h : Res.beq r s with
    | true => simp only [hit, h, cnd_true, true_iff]; rw [Res.beq_iff.1 h]; exact List.mem_cons_self
    | false =>
      have : r ≠ s := fun e => by rw [Res.beq_iff.2 e] at h; cases h
      simp [hit, h, this, hit_iff (ss := ss)]
theorem hits_false : ∀ {rs ss : List Res}, hits rs ss = false → ∀ r ∈ rs, r ∉ ss
  | [], _, _, r, hr => by cases hr
  | x :: rs, ss, h, r, hr => by
    simp only [hits] at h
    cases hx : hit x ss with
    | true => rw [hx] at h; cases h
    | false =>
      rw [hx] at h
      rcases List.mem_cons.1 hr with rfl | hr
      · intro hm; rw [hit_iff.2 hm] at hx; cases hx
      · exact hits_false h r hr
theorem indep_iff {f g : FP} (h : indep f g = true) : (∀ r ∈ f.writes, r ∉ g.reads) ∧ (∀ r ∈ f.writes, r ∉ g.writes) ∧ (∀ r ∈ g.writes, r ∉ f.reads) := by
  unfold indep at h
  cases h1 : hits f.writes g.reads with
  | true => rw [h1] at h; cases h
  | false =>
    cases h2 : hits f.writes g.writes with
    | true => rw [h1, h2] at h; cases h
    | false =>
      cases h3 : hits g.writes f.reads with
      | true => rw [h1, h2, h3] at h; cases h
      | false => exact ⟨hits_false h1, hits_false h2, hits_false h3⟩

theorem mem_dst {u : Upd} {t : Tmp} (h : u.dst = some t) : Res.tmp t ∈ u.writes ∧ Res.box t ∈ u.writes := by
  unfold Upd.writes dstRes; rw [h]; simp
theorem mem_dstO {u : Upd} {t : Tmp} (h : u.dst = some t) : Res.own t ∈ u.writes := by
  unfold Upd.writes dstRes; rw [h]; simp
theorem mem_takes {u : Upd} {l : Loc} (h : l ∈ u.takes) : l.res ∈ u.writes := by
  unfold Upd.writes; simp; right; left; exact ⟨l, h, rfl⟩
theorem mem_bw {u : Upd} {b : Tmp} {d : Dat} {o' : List (List Nat)} {q : List Nat} (h : u.bw = some (b, d, o', q)) : Res.box b ∈ u.writes := by
  unfold Upd.writes; rw [h]; simp
theorem mem_rd {u : Upd} {d : Dat} (h : u.rd = some d) : Res.rd ∈ u.writes := by
  unfold Upd.writes; rw [h]; simp

theorem apply_av {u : Upd} {t : Tmp} (h : Res.tmp t ∉ u.writes) : (apply st u).env t = ⟨(st.env t).av, keepTag u (st.env t).tag⟩ := by
  have : u.dst ≠ some t := fun e => h (mem_dst e).1
  simp [apply, isT_ne.2 this]
theorem keepTag_off {u : Upd} {k : Bool} {l : Loc} (h : l.res ∉ u.writes) : keepTag u (some (k, l)) = some (k, l) := by
  cases l with
  | tmp t p =>
    have : u.dst ≠ some t := fun e => h (mem_dstO e)
    simp [keepTag, isT_ne.2 this]
  | box b p =>
    simp only [keepTag]
    cases hb : u.bw with
    | none => rfl
    | some x =>
      obtain ⟨c, d, o', q⟩ := x
      have : Nat.beq b c = false := by
        cases hq : Nat.beq b c with
        | true => exact absurd (mem_bw (by rw [nbeq hq]; exact hb)) h
        | false => rfl
      simp only [this, cnd_false]
theorem keepTag_loc {u : Upd} {x : Option (Bool × Loc)} {k : Bool} {l : Loc} (h : x = some (k, l)) : ∃ k', keepTag u x = some (k', l) := by
  subst h
  cases l with
  | tmp t p => exact ⟨_, rfl⟩
  | box b p => exact ⟨_, rfl⟩
theorem not_takes {u : Upd} {l : Loc} (h : l.res ∉ u.writes) : inLocs l u.takes = false := by
  cases hq : inLocs l u.takes with
  | true => exact absurd (mem_takes (inLocs_iff.1 hq)) h
  | false => rfl
theorem own_off {u : Upd} {l : Loc} (h : l.res ∉ u.writes) : (apply st u).own l = st.own l := by
  have ht := not_takes h
  cases l with
  | tmp t p =>
    have : u.dst ≠ some t := fun e => h (mem_dstO e)
    simp [apply, isT_ne.2 this, ht]
  | box b p =>
    simp only [apply]
    cases hb : u.bw with
    | none => simp [ht]
    | some x =>
      obtain ⟨c, d, o', q⟩ := x
      have : Nat.beq b c = false := by
        cases hq : Nat.beq b c with
        | true => exact absurd (mem_bw (by rw [nbeq hq]; exact hb)) h
        | false => rfl
      simp [this, ht]
theorem box_off {u : Upd} {b : Tmp} (h : Res.box b ∉ u.writes) : (apply st u).box b = st.box b := by
  simp only [apply]
  cases hb : u.bw with
  | none => rfl
  | some x =>
    obtain ⟨c, d, o', q⟩ := x
    have : Nat.beq b c = false := by
      cases hq : Nat.beq b c with
      | true => exact absurd (mem_bw (by rw [nbeq hq]; exact hb)) h
      | false => rfl
    simp [this]
theorem rd_off {u : Upd} (h : Res.rd ∉ u.writes) : (apply st u).rd = st.rd := by
  simp only [apply]
  cases hr : u.rd with
  | none => rfl
  | some d => exact absurd (mem_rd hr) h

theorem mem_xw {u : Upd} {r : Tmp} {d : Dat} (h : u.xw = some (r, d)) : Res.box r ∈ u.writes := by
  unfold Upd.writes; rw [h]; simp
theorem mem_xbw {u : Upd} {b : Tmp} {x : Ty × Option (Tmp × List Nat)} (h : u.xbw = some (b, x)) : Res.box b ∈ u.writes := by
  unfold Upd.writes; rw [h]; simp
theorem mem_xk {u : Upd} {r : Tmp} (h : u.xk = some r) : Res.box r ∈ u.writes := by
  unfold Upd.writes; rw [h]; simp
theorem io_off {u : Upd} {b : Tmp} (h : Res.box b ∉ u.writes) : (apply st u).io b = st.io b := by
  have hk : ∀ k, u.xk = some k → Nat.beq b k = false := fun k hk => by
    cases hq : Nat.beq b k with
    | true => exact absurd (mem_xk (by rw [nbeq hq]; exact hk)) h
    | false => rfl
  have hw : ∀ c d, u.xw = some (c, d) → Nat.beq b c = false := fun c d hw => by
    cases hq : Nat.beq b c with
    | true => exact absurd (mem_xw (by rw [nbeq hq]; exact hw)) h
    | false => rfl
  unfold apply
  cases hb : u.xw with
  | none =>
    cases hx : u.xk with
    | none => rfl
    | some k => simp only [hk k hx, cnd_false]
  | some x =>
    obtain ⟨c, d⟩ := x
    cases hx : u.xk with
    | none => simp only [hw c d hb, cnd_false]
    | some k => simp only [hw c d hb, hk k hx, cnd_false]
theorem xb_off {u : Upd} {b : Tmp} (h : Res.box b ∉ u.writes) : (apply st u).xb b = st.xb b := by
  simp only [apply]
  cases hb : u.xbw with
  | none => rfl
  | some x =>
    obtain ⟨c, d⟩ := x
    have : Nat.beq b c = false := by
      cases hq : Nat.beq b c with
      | true => exact absurd (mem_xbw (by rw [nbeq hq]; exact hb)) h
      | false => rfl
    simp [this]
theorem readsX_off {u : Upd} {x : Operand} (h : ∀ r ∈ readsX (apply st u) x, r ∉ u.writes) : readsX (apply st u) x = readsX st x := by
  cases x with
  | tmp t =>
    have ht : Res.tmp t ∉ u.writes := h _ (by simp [readsX])
    have he := apply_av (st := st) ht
    have hx : xbRes (apply st u) (st.env t).av = xbRes st (st.env t).av := by
      cases hav : (st.env t).av with
      | cx b p =>
        have : Res.box b ∉ u.writes := h _ (by simp [readsX, he, hav, avRes])
        simp only [xbRes, xb_off this]
      | _ => rfl
    simp only [readsX, he, hx]
    cases hq : (st.env t).tag with
    | none => rfl
    | some kl =>
      obtain ⟨k, l⟩ := kl
      obtain ⟨k', hk⟩ := keepTag_loc (u := u) hq
      rw [hq] at hk
      rw [hk]
  | _ => rfl
theorem look_off {u : Upd} {x : Operand} (h : ∀ r ∈ readsX st x, r ∉ u.writes) : Look st (apply st u) x := by
  cases x with
  | tmp t =>
    have ht : Res.tmp t ∉ u.writes := h _ (by simp [readsX])
    have he : (apply st u).env t = st.env t := by
      rw [apply_av ht]
      cases hq : (st.env t).tag with
      | none =>
        have : st.env t = ⟨(st.env t).av, (st.env t).tag⟩ := rfl
        rw [this, hq]; rfl
      | some kl =>
        obtain ⟨k, l⟩ := kl
        have hl : l.res ∉ u.writes := h _ (by simp [readsX, hq])
        rw [keepTag_off hl]
        have : st.env t = ⟨(st.env t).av, (st.env t).tag⟩ := rfl
        rw [this, hq]
    have hto : Res.own t ∉ u.writes := h _ (by simp [readsX])
    refine ⟨he, fun p => own_off (l := .tmp t p) hto, fun b p hav => ?_, fun p hav => ?_, fun k l hl => ?_, fun r hr => ?_, fun b p hav => ?_, fun b p ty r q hav hb => ?_⟩
    · have hav : (st.env t).av = .cel b p := hav
      have hb : Res.box b ∉ u.writes := h _ (by simp [readsX, hav, avRes])
      exact ⟨box_off hb, fun q => own_off (l := .box b q) hb⟩
    · have hav : (st.env t).av = .rdr p := hav
      exact rd_off (h _ (by simp [readsX, hav, avRes]))
    · have hl : (st.env t).tag = some (k, l) := hl
      have hr : l.res ∉ u.writes := h _ (by simp [readsX, hl])
      exact ⟨own_off hr, own_off (by cases l <;> exact hr)⟩
    · have hr : Res.box r ∈ avRes (st.env t).av := hr
      exact io_off (h _ (by simp [readsX, hr]))
    · have hav : (st.env t).av = .cx b p := hav
      exact xb_off (h _ (by simp [readsX, hav, avRes]))
    · have hav : (st.env t).av = .cx b p := hav
      exact io_off (h _ (by simp [readsX, hav, avRes, xbRes, hb]))
  | const v =>
    refine ⟨rfl, fun _ => rfl, fun b p hav => ?_, fun p hav => ?_, fun k l hl => (by cases hl), fun r hr => ?_, fun b p hav => ?_, fun b p ty r q hav => ?_⟩
    · simp only [St.ent] at hav; unfold constAV at hav; split at hav <;> cases hav
    · simp only [St.ent] at hav; unfold constAV at hav; split at hav <;> cases hav
    · simp only [St.ent] at hr; unfold constAV at hr; split at hr <;> simp [avRes] at hr
    · simp only [St.ent] at hav; unfold constAV at hav; split at hav <;> cases hav
    · simp only [St.ent] at hav; unfold constAV at hav; split at hav <;> cases hav
  | global g => exact ⟨rfl, fun _ => rfl, fun _ _ hav => (by cases hav), fun _ hav => (by cases hav), fun _ _ hl => (by cases hl), fun _ hr => (by simp [St.ent, avRes] at hr), fun _ _ hav => (by cases hav), fun _ _ _ _ _ hav => (by cases hav)⟩
  | func f => exact ⟨rfl, fun _ => rfl, fun _ _ hav => (by cases hav), fun _ hav => (by cases hav), fun _ _ hl => (by cases hl), fun _ hr => (by simp [St.ent, avRes] at hr), fun _ _ hav => (by cases hav), fun _ _ _ _ _ hav => (by cases hav)⟩

theorem readsL_mem : ∀ {l : List Operand} {x : Operand} {r : Res}, x ∈ l → r ∈ readsX st x → r ∈ readsL st l
  | [], _, _, h, _ => by cases h
  | y :: l, x, r, h, hr => by
    simp only [readsL, List.mem_append]
    rcases List.mem_cons.1 h with rfl | h
    · exact .inl hr
    · exact .inr (readsL_mem h hr)
theorem readsL_off {u : Upd} : ∀ {l : List Operand}, (∀ r ∈ readsL (apply st u) l, r ∉ u.writes) → readsL (apply st u) l = readsL st l
  | [], _ => rfl
  | x :: l, h => by
    simp only [readsL] at h ⊢
    rw [readsX_off fun r hr => h r (by simp [hr]), readsL_off fun r hr => h r (by simp [hr])]
theorem mkD_apply (u : Upd) (d : Option Tmp) : mkD (apply st u) d = mkD st d := by cases d <;> rfl
theorem exNo_eq {p : Op} {dd : Option Tmp} (hm : mkD st' dd = mkD st dd) (h : ∀ t i, p = .extract (.tmp t) i → (st'.env t).av = (st.env t).av) : exNo st' dd p = exNo st dd p := by
  cases p with
  | extract x i =>
    cases x with
    | tmp t => simp only [exNo, h t i rfl, hm]
    | _ => rfl
  | _ => rfl
theorem exNo_some {p : Op} {dd : Option Tmp} {t : Tmp} (h : exNo st dd p = some t) : ∃ i ty v d, p = .extract (.tmp t) i ∧ (st.env t).av = .tup ty v ∧ getF ty v i = some d ∧ (slicePaths d.1 = [] ∨ mkD st dd = true) := by
  cases p with
  | extract x i =>
    cases x with
    | tmp s =>
      simp only [exNo] at h
      cases hav : (st.env s).av with
      | tup ty v =>
        rw [hav] at h; simp only [] at h
        cases hf : getF ty v i with
        | none => rw [hf] at h; cases h
        | some d =>
          rw [hf] at h; simp only [] at h
          cases hm : mkD st dd with
          | true => simp only [hm, cnd_true] at h; injection h with h; subst h; exact ⟨i, ty, v, d, rfl, hav, hf, .inr rfl⟩
          | false =>
            simp only [hm, cnd_false] at h
            cases hp : slicePaths d.1 with
            | nil => rw [hp] at h; injection h with h; subst h; exact ⟨i, ty, v, d, rfl, hav, hf, .inl hp⟩
            | cons a b => rw [hp] at h; cases h
      | _ => rw [hav] at h; cases h
    | _ => cases h
  | _ => cases h
theorem mvNo_eq {p : Op} (h : ∀ t, p = .move (.tmp t) → (st'.env t).av = (st.env t).av) : mvNo st' p = mvNo st p := by
  cases p with
  | move x =>
    cases x with
    | tmp t => simp only [mvNo, h t rfl]
    | _ => rfl
  | _ => rfl
theorem mvNo_some {p : Op} {t : Tmp} (h : mvNo st p = some t) : ∃ q : AV, p = .move (.tmp t) ∧ (st.env t).av = q ∧ ((∃ r, q = .rdr r) ∨ ∃ b r, q = .cel b r) := by
  cases p with
  | move x =>
    cases x with
    | tmp s =>
      simp only [mvNo] at h
      cases hav : (st.env s).av with
      | rdr q => rw [hav] at h; injection h with h; subst h; exact ⟨_, rfl, hav, .inl ⟨q, rfl⟩⟩
      | cel b q => rw [hav] at h; injection h with h; subst h; exact ⟨_, rfl, hav, .inr ⟨b, q, rfl⟩⟩
      | _ => rw [hav] at h; cases h
    | _ => cases h
  | _ => cases h
theorem exNo_reads {t : Tmp} {i : Nat} (h : o.op = .extract (.tmp t) i) : Res.tmp t ∈ reads st o := by
  unfold reads
  simp only [List.mem_append]
  right
  cases hq : exNo st o.dst o.op with
  | some s =>
    obtain ⟨j, ty, v, d, e, _⟩ := exNo_some hq
    rw [h] at e; injection e with e _; injection e with e; subst e; simp
  | none =>
    have : mvNo st o.op = none := by rw [h]; rfl
    rw [this]
    exact readsL_mem (x := .tmp t) (by simp [h, Op.operands]) (by simp [readsX])
theorem mvNo_reads {t : Tmp} (h : o.op = .move (.tmp t)) : Res.tmp t ∈ reads st o := by
  unfold reads
  simp only [List.mem_append]
  right
  have : exNo st o.dst o.op = none := by rw [h]; rfl
  rw [this]
  cases hq : mvNo st o.op with
  | some s =>
    obtain ⟨q, e, _⟩ := mvNo_some hq
    rw [h] at e; injection e with e; injection e with e; subst e; simp [readsM]
  | none => exact readsL_mem (x := .tmp t) (by simp [h, Op.operands]) (by simp [readsX])
theorem readsM_off {u : Upd} {t : Tmp} (h : Res.tmp t ∉ u.writes) : readsM (apply st u) t = readsM st t := by
  simp only [readsM, apply_av h]
  cases hq : (st.env t).tag with
  | none => rfl
  | some kl =>
    obtain ⟨k, l⟩ := kl
    obtain ⟨k', hk⟩ := keepTag_loc (u := u) hq
    rw [hq] at hk
    rw [hk]
theorem mv_off {u : Upd} {t : Tmp} (h : ∀ r ∈ readsM st t, r ∉ u.writes) : (apply st u).env t = st.env t ∧ (apply st u).own (.tmp t []) = st.own (.tmp t []) := by
  have ht : Res.tmp t ∉ u.writes := h _ (by simp [readsM])
  refine ⟨?_, own_off (l := .tmp t []) (h _ (by simp [readsM, Loc.res]))⟩
  rw [apply_av ht]
  cases hq : (st.env t).tag with
  | none =>
    have : st.env t = ⟨(st.env t).av, (st.env t).tag⟩ := rfl
    rw [this, hq]; rfl
  | some kl =>
    obtain ⟨k, l⟩ := kl
    have hl : l.res ∉ u.writes := h _ (by simp [readsM, hq])
    rw [keepTag_off hl]
    have : st.env t = ⟨(st.env t).av, (st.env t).tag⟩ := rfl
    rw [this, hq]
theorem reads_off {u : Upd} (h : ∀ r ∈ reads (apply st u) o, r ∉ u.writes) : reads (apply st u) o = reads st o := by
  have e : exNo (apply st u) o.dst o.op = exNo st o.dst o.op := exNo_eq (mkD_apply _ _) fun t i hp => by rw [apply_av (h _ (exNo_reads hp))]
  have e2 : mvNo (apply st u) o.op = mvNo st o.op := mvNo_eq fun t hp => by rw [apply_av (h _ (mvNo_reads hp))]
  have e3 : ∀ t, mvNo st o.op = some t → Res.tmp t ∉ u.writes := fun t hq => by
    obtain ⟨q, hp, _⟩ := mvNo_some hq
    exact h _ (mvNo_reads hp)
  unfold reads at h ⊢
  rw [e, e2] at h ⊢
  cases hq : exNo st o.dst o.op with
  | some t => rfl
  | none =>
    rw [hq] at h
    simp only [] at h ⊢
    cases hm : mvNo st o.op with
    | some t => simp only []; rw [readsM_off (e3 t hm)]
    | none =>
      rw [hm] at h
      simp only [] at h ⊢
      rw [readsL_off fun r hr => h r (by simp [hr])]
theorem step_same {u : Upd} (h : ∀ r ∈ reads st o, r ∉ u.writes) : stepC tab G o (apply st u) = stepC tab G o st := by
  have hdm : ∀ d, o.dst = some d → Res.box d ∉ u.writes := fun d hd => h _ (by unfold reads dstRes; rw [hd]; simp)
  cases hq : exNo st o.dst o.op with
  | some t =>
    obtain ⟨i, ty, v, d, hp, hav, hf, hs⟩ := exNo_some hq
    have hav' : ((apply st u).env t).av = .tup ty v := by rw [apply_av (h _ (exNo_reads hp))]; exact hav
    have e1 : (st.ent (.tmp t)).av = .tup ty v := hav
    have e2 : ((apply st u).ent (.tmp t)).av = .tup ty v := hav'
    rcases hs with hs | hs
    · simp only [stepC, hp, e1, e2, stExtract, hf, hs, List.map_nil, St.owned, mkD_apply]
    · have hs' : mkD (apply st u) o.dst = true := by rw [mkD_apply]; exact hs
      simp only [stepC, hp, e1, e2, stExtract, hf, hs, hs', cnd_true]
  | none =>
    cases hm : mvNo st o.op with
    | some t =>
      obtain ⟨q, hp, hav, hq'⟩ := mvNo_some hm
      have hr : ∀ r ∈ readsM st t, r ∉ u.writes := fun r hr => h r (by unfold reads; rw [hq, hm]; simp [hr])
      obtain ⟨k1, k2⟩ := mv_off hr
      have e1 : (st.ent (.tmp t)) = st.env t := rfl
      have e2 : ((apply st u).ent (.tmp t)) = st.env t := k1
      have e3 : mkD (apply st u) o.dst = mkD st o.dst := by cases o.dst <;> rfl
      rcases hq' with ⟨r, rfl⟩ | ⟨b, r, rfl⟩ <;> simp only [stepC, hp, stAssignM, stMove, isSlV, cnd_false, e1, e2, e3, k2, hav]
    | none =>
      refine step_local (fun x hx => look_off fun r hr => h r ?_) (fun d hd => ⟨box_off (hdm d hd), io_off (hdm d hd), xb_off (hdm d hd)⟩) rfl
      unfold reads; rw [hq, hm]; simp only [List.mem_append]; exact .inr (readsL_mem hx hr)
theorem step_off {u : Upd} (h : ∀ r ∈ reads (apply st u) o, r ∉ u.writes) : stepC tab G o (apply st u) = stepC tab G o st := by
  rw [reads_off h] at h
  exact step_same h

theorem one_off {ops : List Oper} {u' u : Upd} {rs : List Res} (h : oneU tab G ops o (apply st u') = some (u, rs)) (hr : ∀ r ∈ rs, r ∉ u'.writes) : oneU tab G ops o st = some (u, rs) := by
  have rsOf : ∀ {st : St} {rs' : List Res}, (match stepC tab G o st with
      | some (.ret c u) => cond (chkB c) (some (u, rs')) none
      | some (.call _ _ F u) => F.map fun r => (u r, rs')
      | none => none : Option (Upd × List Res)) = some (u, rs) → rs' = rs := by
    intro st rs' hgo
    cases hc : stepC tab G o st with
    | none => rw [hc] at hgo; cases hgo
    | some c =>
      rw [hc] at hgo
      cases c with
      | ret c u2 =>
        cases hck : chkB c with
        | false => simp only [hck] at hgo; cases hgo
        | true => simp only [hck] at hgo; injection hgo with hgo; injection hgo
      | call rt rdt F u2 =>
        cases F with
        | none => cases hgo
        | some r => injection hgo with hgo; injection hgo
  unfold oneU at h ⊢
  cases hg : o.guard with
  | none =>
    rw [hg] at h
    simp only [] at h ⊢
    have := rsOf h
    subst this
    rw [← reads_off hr, ← step_off (tab := tab) (G := G) hr]; exact h
  | some gw =>
    obtain ⟨g, want⟩ := gw
    rw [hg] at h
    simp only [] at h ⊢
    cases hgt : guardT ops g with
    | none => rw [hgt] at h; cases h
    | some t =>
      rw [hgt] at h
      simp only [] at h ⊢
      have hav : Res.tmp t ∈ rs → ((apply st u').env t).av = (st.env t).av := fun hm => by rw [apply_av (hr _ hm)]
      cases hq : ((apply st u').env t).av with
      | dat ty b =>
        rw [hq] at h
        cases ty <;> try (simp only [] at h; cases h; done)
        simp only [] at h
        cases hw : eqW b want with
        | true =>
          rw [hw] at h
          have h : (match stepC tab G o (apply st u') with
            | some (.ret c u) => cond (chkB c) (some (u, Res.tmp t :: reads (apply st u') o)) none
            | some (.call _ _ F u) => F.map fun r => (u r, Res.tmp t :: reads (apply st u') o)
            | none => none : Option (Upd × List Res)) = some (u, rs) := h
          have := rsOf h
          subst this
          have hr' : ∀ r ∈ reads (apply st u') o, r ∉ u'.writes := fun r hm => hr r (by simp [hm])
          have ha := hav (by simp)
          rw [← ha, hq]
          simp only [hw]
          rw [← reads_off hr', ← step_off (tab := tab) (G := G) hr']; exact h
        | false =>
          rw [hw] at h
          have h : some (skipU o, [Res.tmp t]) = some (u, rs) := h
          have hrs : rs = [Res.tmp t] := by injection h with h; injection h with _ h; exact h.symm
          have ha := hav (by rw [hrs]; simp)
          rw [← ha, hq]
          simp only [hw]; exact h
      | skp =>
        rw [hq] at h
        have h : some (skipU o, [Res.tmp t]) = some (u, rs) := h
        have hrs : rs = [Res.tmp t] := by injection h with h; injection h with _ h; exact h.symm
        have ha := hav (by rw [hrs]; simp)
        rw [← ha, hq]; exact h
      | _ => rw [hq] at h; simp only [] at h; cases h

end
end Go.Den

namespace Go.Den
section
variable {P : Program} {tab : Tab} {G : Gam}
variable {st st' : St} {o : Oper}

theorem keepTag_comm (u1 u2 : Upd) (x : Option (Bool × Loc)) : keepTag u1 (keepTag u2 x) = keepTag u2 (keepTag u1 x) := by
  cases x with
  | none => rfl
  | some kl =>
    obtain ⟨k, l⟩ := kl
    cases l with
    | tmp t p =>
      simp only [keepTag]
      cases isT t u1.dst <;> cases isT t u2.dst <;> rfl
    | box b p =>
      simp only [keepTag]
      cases u1.bw with
      | none => rfl
      | some x1 =>
        cases u2.bw with
        | none => rfl
        | some x2 =>
          obtain ⟨c1, _⟩ := x1
          obtain ⟨c2, _⟩ := x2
          simp only []
          cases Nat.beq b c1 <;> cases Nat.beq b c2 <;> rfl
theorem tagRes_off {u u' : Upd} (h : ∀ r ∈ tagRes u, r ∉ u'.writes) : keepTag u' u.ent.tag = u.ent.tag := by
  unfold tagRes at h
  cases hq : u.ent.tag with
  | none => rfl
  | some kl =>
    obtain ⟨k, l⟩ := kl
    rw [hq] at h
    exact keepTag_off (h _ (by simp))
theorem isT_true {t : Tmp} {d : Option Tmp} (h : isT t d = true) : d = some t := by
  cases d with
  | none => cases h
  | some e => have := nbeq h; subst this; rfl

theorem apply_comm {u1 u2 : Upd} (hw : ∀ r ∈ u1.writes, r ∉ u2.writes) (h1 : ∀ r ∈ tagRes u1, r ∉ u2.writes) (h2 : ∀ r ∈ tagRes u2, r ∉ u1.writes) : apply (apply st u1) u2 = apply (apply st u2) u1 := by
  have hw' : ∀ r ∈ u2.writes, r ∉ u1.writes := fun r hr hq => hw r hq hr
  have henv : (apply (apply st u1) u2).env = (apply (apply st u2) u1).env := by
    funext t
    have e1 := tagRes_off h1
    have e2 := tagRes_off h2
    cases hq1 : isT t u1.dst with
    | true =>
      have hd := isT_true hq1
      have hn : isT t u2.dst = false := isT_ne.2 fun e => hw _ (mem_dst hd).1 (mem_dst e).1
      simp only [apply, hq1, hn, cnd_true, cnd_false, e1]
    | false =>
      cases hq2 : isT t u2.dst with
      | true => simp only [apply, hq1, hq2, cnd_true, cnd_false, e2]
      | false => simp only [apply, hq1, hq2, cnd_false, keepTag_comm u1 u2]
  have hrd : (apply (apply st u1) u2).rd = (apply (apply st u2) u1).rd := by
    simp only [apply]
    cases hq1 : u1.rd with
    | none => rfl
    | some d1 =>
      cases hq2 : u2.rd with
      | none => rfl
      | some d2 => exact absurd (mem_rd hq2) (hw _ (mem_rd hq1))
  have hbox : (apply (apply st u1) u2).box = (apply (apply st u2) u1).box := by
    funext b
    by_cases hb1 : Res.box b ∈ u1.writes
    · have hb2 := hw _ hb1
      rw [box_off hb2]
      simp only [apply]
      cases hq1 : u1.bw with
      | none =>
        simp only []
        cases hq2 : u2.bw with
        | none => rfl
        | some x2 =>
          obtain ⟨c, d, o', q⟩ := x2
          have : Nat.beq b c = false := by
            cases hq : Nat.beq b c with
            | true => exact absurd (mem_bw (by rw [nbeq hq]; exact hq2)) hb2
            | false => rfl
          simp [this]
      | some x1 =>
        obtain ⟨c1, d1, o1, q1⟩ := x1
        simp only []
        cases hq2 : u2.bw with
        | none => rfl
        | some x2 =>
          obtain ⟨c, d, o', q⟩ := x2
          have : Nat.beq b c = false := by
            cases hq : Nat.beq b c with
            | true => exact absurd (mem_bw (by rw [nbeq hq]; exact hq2)) hb2
            | false => rfl
          simp [this]
    · rw [box_off hb1]
      simp only [apply]
      cases hq2 : u2.bw with
      | none => exact box_off hb1
      | some x2 =>
        obtain ⟨c, d, o', q⟩ := x2
        simp only []
        have : _ = st.box b := box_off (st := st) hb1
        simp only [apply] at this
        rw [this]
  have hown : (apply (apply st u1) u2).own = (apply (apply st u2) u1).own := by
    funext l
    by_cases hb1 : l.res ∈ u1.writes
    · have hb2 := hw _ hb1
      rw [own_off hb2]
      have e2 := own_off (st := st) hb2
      have : ∀ {s s' : St}, s.own l = s'.own l → (apply s u1).own l = (apply s' u1).own l := by
        intro s s' he
        cases l with
        | tmp t p => simp only [apply, he]
        | box b p =>
          simp only [apply]
          cases u1.bw with
          | none => simp only [he]
          | some x => simp only [he]
      exact (this e2).symm
    · rw [own_off hb1]
      have e1 := own_off (st := st) hb1
      have : ∀ {s s' : St}, s.own l = s'.own l → (apply s u2).own l = (apply s' u2).own l := by
        intro s s' he
        cases l with
        | tmp t p => simp only [apply, he]
        | box b p =>
          simp only [apply]
          cases u2.bw with
          | none => simp only [he]
          | some x => simp only [he]
      exact this e1
  have hio : (apply (apply st u1) u2).io = (apply (apply st u2) u1).io := by
    have cong : ∀ (u : Upd) (b : Tmp) {s s' : St}, s.io b = s'.io b → (apply s u).io b = (apply s' u).io b := by
      intro u b s s' he
      unfold apply
      cases u.xw with
      | none => cases u.xk <;> simp only [he]
      | some x => cases u.xk <;> simp only [he]
    funext b
    by_cases hb1 : Res.box b ∈ u1.writes
    · have hb2 := hw _ hb1
      rw [io_off hb2]
      exact (cong u1 b (io_off hb2)).symm
    · rw [io_off hb1]
      exact cong u2 b (io_off hb1)
  have hxb : (apply (apply st u1) u2).xb = (apply (apply st u2) u1).xb := by
    have cong : ∀ (u : Upd) (b : Tmp) {s s' : St}, s.xb b = s'.xb b → (apply s u).xb b = (apply s' u).xb b := by
      intro u b s s' he
      simp only [apply]
      cases u.xbw with
      | none => exact he
      | some x => simp only [he]
    funext b
    by_cases hb1 : Res.box b ∈ u1.writes
    · have hb2 := hw _ hb1
      rw [xb_off hb2]
      exact (cong u1 b (xb_off hb2)).symm
    · rw [xb_off hb1]
      exact cong u2 b (xb_off hb1)
  have ext : ∀ {s s' : St}, s.env = s'.env → s.box = s'.box → s.own = s'.own → s.rd = s'.rd → s.kn = s'.kn → s.io = s'.io → s.xb = s'.xb → s.mkt = s'.mkt → s = s' := by
    intro s s' a b c d e f g k
    cases s; cases s'
    simp only at a b c d e f g k
    subst a; subst b; subst c; subst d; subst e; subst f; subst g; subst k; rfl
  exact ext henv hbox hown hrd rfl hio hxb rfl

theorem readsX_on {u : Upd} {x : Operand} (h : ∀ r ∈ readsX st x, r ∉ u.writes) : readsX (apply st u) x = readsX st x := by
  cases x with
  | tmp t =>
    have he : (apply st u).env t = st.env t := (look_off (x := .tmp t) h).ent
    have hx : xbRes (apply st u) (st.env t).av = xbRes st (st.env t).av := by
      cases hav : (st.env t).av with
      | cx b p =>
        have : Res.box b ∉ u.writes := h _ (by simp [readsX, hav, avRes])
        simp only [xbRes, xb_off this]
      | _ => rfl
    simp only [readsX, he, hx]
  | _ => rfl
theorem readsL_on {u : Upd} : ∀ {l : List Operand}, (∀ r ∈ readsL st l, r ∉ u.writes) → readsL (apply st u) l = readsL st l
  | [], _ => rfl
  | x :: l, h => by
    simp only [readsL] at h ⊢
    rw [readsX_on fun r hr => h r (by simp [hr]), readsL_on fun r hr => h r (by simp [hr])]
theorem reads_on {u : Upd} (h : ∀ r ∈ reads st o, r ∉ u.writes) : reads (apply st u) o = reads st o := by
  have e : exNo (apply st u) o.dst o.op = exNo st o.dst o.op := exNo_eq (mkD_apply _ _) fun t i hp => by rw [apply_av (h _ (exNo_reads hp))]
  have e2 : mvNo (apply st u) o.op = mvNo st o.op := mvNo_eq fun t hp => by rw [apply_av (h _ (mvNo_reads hp))]
  have e3 : ∀ t, mvNo st o.op = some t → Res.tmp t ∉ u.writes := fun t hq => by
    obtain ⟨q, hp, _⟩ := mvNo_some hq
    exact h _ (mvNo_reads hp)
  unfold reads at h ⊢
  rw [e, e2]
  cases hq : exNo st o.dst o.op with
  | some t => rfl
  | none =>
    rw [hq] at h
    simp only [] at h ⊢
    cases hm : mvNo st o.op with
    | some t => simp only []; rw [readsM_off (e3 t hm)]
    | none =>
      rw [hm] at h
      simp only [] at h ⊢
      rw [readsL_on fun r hr => h r (by simp [hr])]
theorem step_on {u : Upd} (h : ∀ r ∈ reads st o, r ∉ u.writes) : stepC tab G o (apply st u) = stepC tab G o st := step_same h

theorem one_on {ops : List Oper} {u' u : Upd} {rs : List Res} (h : oneU tab G ops o st = some (u, rs)) (hr : ∀ r ∈ rs, r ∉ u'.writes) : oneU tab G ops o (apply st u') = some (u, rs) := by
  have rsOf : ∀ {st : St} {rs' : List Res}, (match stepC tab G o st with
      | some (.ret c u) => cond (chkB c) (some (u, rs')) none
      | some (.call _ _ F u) => F.map fun r => (u r, rs')
      | none => none : Option (Upd × List Res)) = some (u, rs) → rs' = rs := by
    intro st rs' hgo
    cases hc : stepC tab G o st with
    | none => rw [hc] at hgo; cases hgo
    | some c =>
      rw [hc] at hgo
      cases c with
      | ret c u2 =>
        cases hck : chkB c with
        | false => simp only [hck] at hgo; cases hgo
        | true => simp only [hck] at hgo; injection hgo with hgo; injection hgo
      | call rt rdt F u2 =>
        cases F with
        | none => cases hgo
        | some r => injection hgo with hgo; injection hgo
  unfold oneU at h ⊢
  cases hg : o.guard with
  | none =>
    rw [hg] at h
    simp only [] at h ⊢
    have := rsOf h
    subst this
    rw [reads_on hr, step_on (tab := tab) (G := G) hr]; exact h
  | some gw =>
    obtain ⟨g, want⟩ := gw
    rw [hg] at h
    simp only [] at h ⊢
    cases hgt : guardT ops g with
    | none => rw [hgt] at h; cases h
    | some t =>
      rw [hgt] at h
      simp only [] at h ⊢
      have hav : Res.tmp t ∈ rs → ((apply st u').env t).av = (st.env t).av := fun hm => by rw [apply_av (hr _ hm)]
      cases hq : (st.env t).av with
      | dat ty b =>
        rw [hq] at h
        cases ty <;> try (simp only [] at h; cases h; done)
        simp only [] at h
        cases hw : eqW b want with
        | true =>
          rw [hw] at h
          have h : (match stepC tab G o st with
            | some (.ret c u) => cond (chkB c) (some (u, Res.tmp t :: reads st o)) none
            | some (.call _ _ F u) => F.map fun r => (u r, Res.tmp t :: reads st o)
            | none => none : Option (Upd × List Res)) = some (u, rs) := h
          have := rsOf h
          subst this
          have hr' : ∀ r ∈ reads st o, r ∉ u'.writes := fun r hm => hr r (by simp [hm])
          have ha := hav (by simp)
          rw [ha, hq]
          simp only [hw]
          rw [reads_on hr', step_on (tab := tab) (G := G) hr']; exact h
        | false =>
          rw [hw] at h
          have h : some (skipU o, [Res.tmp t]) = some (u, rs) := h
          have hrs : rs = [Res.tmp t] := by injection h with h; injection h with _ h; exact h.symm
          have ha := hav (by rw [hrs]; simp)
          rw [ha, hq]
          simp only [hw]; exact h
      | skp =>
        rw [hq] at h
        have h : some (skipU o, [Res.tmp t]) = some (u, rs) := h
        have hrs : rs = [Res.tmp t] := by injection h with h; injection h with _ h; exact h.symm
        have ha := hav (by rw [hrs]; simp)
        rw [ha, hq]; exact h
      | _ => rw [hq] at h; simp only [] at h; cases h

/-! ### a run, its operations listed with what they change -/
structure Item where
  i : Nat
  o : Oper
  u : Upd
  rs : List Res
def Item.fp (x : Item) : FP := ⟨tagRes x.u ++ x.rs, x.u.writes⟩
def RunI (tab : Tab) (G : Gam) (ops : List Oper) : List Item → St → St → Prop
  | [], st, st' => st = st'
  | x :: xs, st, st' => oneU tab G ops x.o st = some (x.u, x.rs) ∧ RunI tab G ops xs (apply st x.u) st'

theorem runI_swap {ops : List Oper} {x y : Item} {r : List Item} (hi : indep x.fp y.fp = true) (h : RunI tab G ops (x :: y :: r) st st') : RunI tab G ops (y :: x :: r) st st' := by
  obtain ⟨h1, h2, h3⟩ := h
  obtain ⟨i1, i2, i3⟩ := indep_iff hi
  have i3' : ∀ r ∈ x.fp.reads, r ∉ y.fp.writes := fun r hr hq => i3 r hq hr
  refine ⟨one_off h2 (fun r hr hq => i1 r hq (by simp [Item.fp, hr])), one_on h1 (fun r hr => i3' r (by simp [Item.fp, hr])), ?_⟩
  rw [apply_comm (fun r hr hq => i2 r hq hr) (fun r hr hq => i1 r hq (by simp [Item.fp, hr])) (fun r hr => i3' r (by simp [Item.fp, hr]))]
  exact h3
theorem runI_bubble {ops : List Oper} {y : Item} {post : List Item} : ∀ {pre : List Item} {st : St}, (∀ x ∈ pre, indep x.fp y.fp = true) → RunI tab G ops (pre ++ y :: post) st st' → RunI tab G ops (y :: (pre ++ post)) st st'
  | [], _, _, h => h
  | x :: pre, st, hi, h => by
    obtain ⟨h1, h2⟩ := h
    have := runI_bubble (fun z hz => hi z (by simp [hz])) h2
    exact runI_swap (hi x (by simp)) ⟨h1, this⟩

theorem runT_items {ops : List Oper} : ∀ {rest : List Oper} {i : Nat} {st : St} {fs : List FP}, runT tab G ops rest st = some (st', fs) →
    ∃ xs : List Item, RunI tab G ops xs st st' ∧ xs.map Item.fp = fs ∧ xs.map (·.o) = rest ∧ xs.map (·.i) = List.range' i rest.length := by
  intro rest
  induction rest with
  | nil => intro i st fs h; injection h with h; injection h with h1 h2; subst h1; subst h2; exact ⟨[], rfl, rfl, rfl, rfl⟩
  | cons o rest ih =>
    intro i st fs h
    simp only [runT] at h
    cases hu : oneU tab G ops o st with
    | none => rw [hu] at h; cases h
    | some ur =>
      obtain ⟨u, rs⟩ := ur
      rw [hu] at h; simp only [] at h
      cases hrest : runT tab G ops rest (apply st u) with
      | none => rw [hrest] at h; cases h
      | some sf =>
        obtain ⟨s', fs'⟩ := sf
        rw [hrest] at h
        injection h with h; injection h with h1 h2; subst h1; subst h2
        obtain ⟨xs, k1, k2, k3, k4⟩ := ih (i := i + 1) hrest
        exact ⟨⟨i, o, u, rs⟩ :: xs, ⟨hu, k1⟩, by simp [k2, Item.fp], by simp [k3], by simp [k4, List.range'_succ]⟩
end
end Go.Den

namespace Go.Den
section
variable {P : Program} {tab : Tab} {G : Gam} {w0 : Base} {lim0 : Lim} {rb : Option Nat} {n : Nat}
variable {st st' : St} {a : Act} {w : World} {lim : Lim} {β : Mp}

theorem bget_bor : ∀ {k : Nat} {xs ys : List Bool}, bget k (bor xs ys) = true → bget k xs = true ∨ bget k ys = true
  | _, [], _, h => .inr h
  | 0, true :: _, [], _ => .inl rfl
  | 0, false :: _, [], h => by cases h
  | _ + 1, _ :: _, [], h => .inl h
  | 0, x :: xs, y :: ys, h => by
    cases x with
    | true => exact .inl rfl
    | false => exact .inr h
  | k + 1, x :: xs, y :: ys, h => bget_bor (k := k) (xs := xs) (ys := ys) h
theorem bget_bset : ∀ {k m : Nat} {xs : List Bool}, bget k (bset m xs) = true → k = m ∨ bget k xs = true
  | 0, 0, _, _ => .inl rfl
  | k + 1, 0, [], h => by cases k <;> cases h
  | k + 1, 0, _ :: _, h => .inr h
  | 0, m + 1, [], h => by cases h
  | 0, m + 1, _ :: _, h => .inr h
  | k + 1, m + 1, [], h => by
    rcases bget_bset (k := k) (m := m) (xs := []) h with h | h
    · exact .inl (by rw [h])
    · cases k <;> cases h
  | k + 1, m + 1, _ :: xs, h => by
    rcases bget_bset (k := k) (m := m) (xs := xs) h with h | h
    · exact .inl (by rw [h])
    · exact .inr h
theorem bget_maskOf {acc : List (List Bool)} {k : Nat} : ∀ {es : List Edge}, bget k (maskOf acc es) = true → ∃ e ∈ es, bindsAny e = true ∧ (k = e.on ∨ bget k (nthM e.on acc) = true)
  | [], h => by cases k <;> cases h
  | e :: es, h => by
    simp only [maskOf] at h
    cases hb : bindsAny e with
    | true =>
      rw [hb] at h
      rcases bget_bor h with h | h
      · exact ⟨e, by simp, hb, bget_bset h⟩
      · obtain ⟨e', h1, h2⟩ := bget_maskOf h
        exact ⟨e', by simp [h1], h2⟩
    | false =>
      rw [hb] at h
      obtain ⟨e', h1, h2⟩ := bget_maskOf h
      exact ⟨e', by simp [h1], h2⟩
theorem nthM_app : ∀ {acc more : List (List Bool)} {k j : Nat}, bget j (nthM k acc) = true → nthM k (acc ++ more) = nthM k acc
  | [], _, k, j, h => by cases k <;> cases j <;> cases h
  | m :: acc, more, 0, _, _ => rfl
  | m :: acc, more, k + 1, j, h => nthM_app (acc := acc) (k := k) (j := j) h
theorem nthM_at : ∀ {acc more : List (List Bool)} {m : List Bool}, nthM acc.length (acc ++ m :: more) = m
  | [], _, _ => rfl
  | _ :: acc, more, m => nthM_at (acc := acc)
theorem masks_ext : ∀ {os : List Oper} {acc : List (List Bool)}, ∃ more, masks os acc = acc ++ more
  | [], acc => ⟨[], by simp [masks]⟩
  | o :: os, acc => by
    obtain ⟨more, h⟩ := masks_ext (os := os) (acc := acc ++ [maskOf acc o.after.toList])
    exact ⟨maskOf acc o.after.toList :: more, by simp [masks, h]⟩
theorem masks_spec : ∀ {os : List Oper} {acc : List (List Bool)} {i k : Nat} {o : Oper}, os[i]? = some o → bget k (nthM (acc.length + i) (masks os acc)) = true →
    ∃ e ∈ o.after.toList, bindsAny e = true ∧ (k = e.on ∨ bget k (nthM e.on (masks os acc)) = true)
  | [], _, _, _, _, h, _ => by cases h
  | x :: os, acc, 0, k, o, h, hb => by
    injection h with h; subst h
    simp only [masks] at hb ⊢
    obtain ⟨more, hm⟩ := masks_ext (os := os) (acc := acc ++ [maskOf acc x.after.toList])
    rw [hm] at hb ⊢
    rw [List.append_assoc] at hb ⊢
    have : nthM (acc.length + 0) (acc ++ ([maskOf acc x.after.toList] ++ more)) = maskOf acc x.after.toList := nthM_at
    rw [this] at hb
    obtain ⟨e, h1, h2, h3⟩ := bget_maskOf hb
    refine ⟨e, h1, h2, h3.imp id fun h => ?_⟩
    rw [nthM_app h]; exact h
  | x :: os, acc, i + 1, k, o, h, hb => by
    simp only [masks] at hb ⊢
    refine masks_spec (os := os) (i := i) (by simpa using h) ?_
    have : (acc ++ [maskOf acc x.after.toList]).length + i = acc.length + (i + 1) := by simp; omega
    rw [this]; exact hb

theorem edgesBack_spec {i : Nat} : ∀ {es : List Edge}, edgesBack i es = true → ∀ e ∈ es, bindsAny e = true → e.on < i
  | [], _, e, he, _ => by cases he
  | x :: es, h, e, he, hb => by
    simp only [edgesBack] at h
    cases hq : cnd (bindsAny x) (Nat.blt x.on i) true with
    | false => rw [hq] at h; cases h
    | true =>
      rw [hq] at h
      rcases List.mem_cons.1 he with rfl | he
      · rw [hb] at hq; simpa [Nat.blt_eq] using hq
      · exact edgesBack_spec h e he hb
theorem edgesOk_spec : ∀ {os : List Oper} {i j : Nat} {o : Oper}, edgesOk os i = true → os[j]? = some o → ∀ e ∈ o.after.toList, bindsAny e = true → e.on < i + j
  | [], _, _, _, _, h => by cases h
  | x :: os, i, j, o, h, hj => by
    simp only [edgesOk] at h
    cases hq : edgesBack i x.after.toList with
    | false => rw [hq] at h; cases h
    | true =>
      rw [hq] at h
      cases j with
      | zero => injection hj with hj; subst hj; exact edgesBack_spec hq
      | succ j =>
        have := edgesOk_spec (os := os) (i := i + 1) (j := j) h (by simpa using hj)
        intro e he hb
        have := this e he hb
        omega

theorem pairOk_spec {m : List Bool} {f : FP} : ∀ {gs : List FP} {j : Nat}, pairOk m f gs j = true → ∀ (k : Nat) g, gs[k]? = some g → bget (j + k) m = true ∨ indep g f = true
  | [], _, _, _, _, h => by cases h
  | x :: gs, j, h, k, g, hk => by
    simp only [pairOk] at h
    cases hq : cnd (bget j m) true (indep x f) with
    | false => rw [hq] at h; cases h
    | true =>
      rw [hq] at h
      cases k with
      | zero =>
        injection hk with hk; subst hk
        rw [Nat.add_zero]
        cases hb : bget j m with
        | true => exact .inl rfl
        | false => rw [hb] at hq; exact .inr hq
      | succ k =>
        have := pairOk_spec (j := j + 1) h k g (by simpa using hk)
        rwa [Nat.add_assoc, Nat.add_comm 1 k] at this
theorem pairsOk_spec {ms : List (List Bool)} : ∀ {fs seen : List FP}, pairsOk ms seen fs seen.length = true → ∀ (k j : Nat) g f, k < j → (seen ++ fs)[k]? = some g → (seen ++ fs)[j]? = some f → seen.length ≤ j → bget k (nthM j ms) = true ∨ indep g f = true
  | [], seen, _, k, j, g, f, _, _, hj, hl => by
    rw [List.append_nil] at hj
    have := (List.getElem?_eq_some_iff.1 hj).1; omega
  | x :: fs, seen, h, k, j, g, f, hkj, hk, hj, hl => by
    simp only [pairsOk] at h
    cases hq : pairOk (nthM seen.length ms) x seen 0 with
    | false => rw [hq] at h; cases h
    | true =>
      rw [hq] at h
      have h : pairsOk ms (seen ++ [x]) fs (seen ++ [x]).length = true := by simpa using h
      by_cases he : j = seen.length
      · subst he
        have hf : f = x := by
          rw [List.getElem?_append_right (Nat.le_refl _)] at hj
          simpa using hj.symm
        subst hf
        rw [List.getElem?_append_left hkj] at hk
        have := pairOk_spec hq k g hk
        rwa [Nat.zero_add] at this
      · refine pairsOk_spec h k j g f hkj (by simpa using hk) (by simpa using hj) (by simp; omega)

theorem binds_any (e : Edge) : Region.binds .any e = bindsAny e := by
  unfold Region.binds bindsAny
  cases e.ground <;> rfl
theorem ready_mem {ops : Array Oper} {L : Array Bool} {i : Nat} (h : i ∈ Region.ready .any ops L) : i < ops.size ∧ L.getD i true = false ∧ ∃ o, ops[i]? = some o ∧ ∀ e ∈ o.after.toList, bindsAny e = true → L.getD e.on false = true := by
  unfold Region.ready at h
  simp only [List.mem_filter, List.mem_range, Bool.and_eq_true] at h
  obtain ⟨h1, h2, h3⟩ := h
  refine ⟨h1, by simpa using h2, ops[i], by simp [h1], fun e he hb => ?_⟩
  have : (ops[i]?).map (·.after.all fun e => !Region.binds .any e || L.getD e.on false) = some (ops[i].after.all fun e => !Region.binds .any e || L.getD e.on false) := by simp [h1]
  rw [this] at h3
  simp only [Option.getD_some] at h3
  rw [← Array.all_toList, List.all_eq_true] at h3
  have := h3 e he
  rw [binds_any, hb] at this
  simpa using this
theorem ready_of {ops : Array Oper} {L : Array Bool} {i : Nat} {o : Oper} (h1 : L.getD i true = false) (h2 : ops[i]? = some o) (h3 : ∀ e ∈ o.after.toList, bindsAny e = true → L.getD e.on false = true) : i ∈ Region.ready .any ops L := by
  unfold Region.ready
  have hi := (Array.getElem?_eq_some_iff.1 h2).1
  simp only [List.mem_filter, List.mem_range, Bool.and_eq_true]
  refine ⟨hi, by simpa using h1, ?_⟩
  rw [h2]
  simp only [Option.map_some, Option.getD_some]
  rw [← Array.all_toList, List.all_eq_true]
  intro e he
  rw [binds_any]
  cases hb : bindsAny e with
  | false => rfl
  | true => simpa using h3 e he hb

structure Left (ops : Array Oper) (ms : List (List Bool)) (L : Array Bool) (xs : List Item) : Prop where
  size : L.size = ops.size
  at' : ∀ x ∈ xs, ops[x.i]? = some x.o
  inc : xs.Pairwise fun x y => x.i < y.i
  pairs : xs.Pairwise fun x y => bget x.i (nthM y.i ms) = true ∨ indep x.fp y.fp = true
  all : ∀ i, i < ops.size → L.getD i true = false → ∃ x ∈ xs, x.i = i
  not : ∀ x ∈ xs, L.getD x.i true = false
  closed : ∀ (i k : Nat), L.getD i false = true → bget k (nthM i ms) = true → L.getD k false = true

theorem getD_set {L : Array Bool} {i j : Nat} {d : Bool} : (L.setIfInBounds i true).getD j d = if i = j ∧ j < L.size then true else L.getD j d := by
  rw [Array.getD_eq_getD_getElem?, Array.getD_eq_getD_getElem?, Array.getElem?_setIfInBounds]
  by_cases h : i = j
  · subst h
    by_cases hl : i < L.size
    · simp [hl]
    · simp [hl, Array.getElem?_eq_none (Nat.le_of_not_lt hl)]
  · simp [h]

theorem any_sound (hT : TabOk P tab) (hG : GamOk P G) {ops : Array Oper} {ms : List (List Bool)} (hms : ms = masks ops.toList []) (hE : edgesOk ops.toList 0 = true) {Q : Exit → Act → World → Prop} (hrb : ∀ k, some k = rb → k < w0.heap.size)
    (hd : ∀ o ∈ ops.toList, ∀ d, o.dst = some d → d < n) (hQ : ∀ a' w' lim' β', Sim w0 lim0 rb n st' a' w' lim' β' → Q .normal a' w') :
    ∀ (fuel : Nat) (L : Array Bool) (xs : List Item) (st : St) (a : Act) (w : World) (lim : Lim) (β : Mp), xs.length = fuel → Left ops ms L xs → RunI tab G ops.toList xs st st' → Sim w0 lim0 rb n st a w lim β → wpAny P .any ops Q fuel L a w := by
  intro fuel
  induction fuel with
  | zero =>
    intro L xs st a w lim β hl hx hr h
    have : xs = [] := List.length_eq_zero_iff.1 hl
    subst this
    have hr : st = st' := hr
    subst hr
    refine ⟨?_, hQ _ _ _ _ h⟩
    cases hq : Region.ready .any ops L with
    | nil => rfl
    | cons i is =>
      obtain ⟨h1, h2, _⟩ := ready_mem (i := i) (by rw [hq]; simp)
      obtain ⟨x, hx', _⟩ := hx.all i h1 h2
      cases hx'
  | succ fuel ih =>
    intro L xs st a w lim β hl hx hr h
    refine ⟨fun hnil => ?_, fun i hi => ?_⟩
    · -- the first that is left is ready
      exfalso
      cases xs with
      | nil => simp at hl
      | cons x xs =>
        have : x.i ∈ Region.ready .any ops L := by
          refine ready_of (hx.not x (by simp)) (hx.at' x (by simp)) fun e he hb => ?_
          have hop : ops.toList[x.i]? = some x.o := by simpa using hx.at' x (by simp)
          have hlt := edgesOk_spec hE hop e he hb
          rw [Nat.zero_add] at hlt
          have hxs := (Array.getElem?_eq_some_iff.1 (hx.at' x (by simp))).1
          have hsz : e.on < L.size := by rw [hx.size]; omega
          cases hq : L.getD e.on true with
          | true =>
            rw [Array.getD_eq_getD_getElem?, Array.getElem?_eq_getElem hsz] at hq ⊢
            simpa using hq
          | false =>
            obtain ⟨y, hy, hyi⟩ := hx.all e.on (by rw [← hx.size]; exact hsz) hq
            rcases List.mem_cons.1 hy with rfl | hy
            · omega
            · have := (List.pairwise_cons.1 hx.inc).1 y hy
              omega
        rw [hnil] at this; cases this
    · obtain ⟨h1, h2, o, h3, h4⟩ := ready_mem hi
      obtain ⟨y, hy, hyi⟩ := hx.all i h1 h2
      have hyo : y.o = o := by
        have := hx.at' y hy
        rw [hyi, h3] at this; injection this with this; exact this.symm
      obtain ⟨pre, post, rfl⟩ := List.append_of_mem hy
      -- what comes before it in every order is done
      have hmask : ∀ k, bget k (nthM i ms) = true → L.getD k false = true := by
        intro k hk
        rw [hms] at hk
        have hop : ops.toList[i]? = some o := by simpa using h3
        obtain ⟨e, he, hb, hk'⟩ := masks_spec (acc := []) hop (by simpa using hk)
        have hon := h4 e he hb
        rcases hk' with rfl | hk'
        · exact hon
        · exact hx.closed e.on k hon (by rw [hms]; exact hk')
      have hpre : ∀ x ∈ pre, indep x.fp y.fp = true := by
        intro x hxm
        have hp := (List.pairwise_append.1 hx.pairs).2.2 x hxm y (by simp)
        rcases hp with hp | hp
        · exfalso
          rw [hyi] at hp
          have h5 := hmask _ hp
          have h6 := hx.not x (by simp [hxm])
          have : x.i < L.size := by rw [hx.size]; exact (Array.getElem?_eq_some_iff.1 (hx.at' x (by simp [hxm]))).1
          rw [Array.getD_eq_getD_getElem?, Array.getElem?_eq_getElem this] at h5 h6
          simp at h5 h6
          rw [h5] at h6; cases h6
        · exact hp
      obtain ⟨r1, r2⟩ := runI_bubble hpre hr
      have hL : Left ops ms (L.setIfInBounds i true) (pre ++ post) := by
        refine ⟨by simp [hx.size], fun x hxm => hx.at' x (by simp at hxm ⊢; rcases hxm with h | h <;> simp [h]), ?_, ?_, fun j hj hq => ?_, fun x hxm => ?_, fun j k hj hk => ?_⟩
        · exact List.Pairwise.sublist (List.Sublist.append (List.Sublist.refl _) (List.sublist_cons_self _ _)) hx.inc
        · exact List.Pairwise.sublist (List.Sublist.append (List.Sublist.refl _) (List.sublist_cons_self _ _)) hx.pairs
        · rw [getD_set] at hq
          split at hq
          · cases hq
          · rename_i hne
            obtain ⟨x, hxm, hxi⟩ := hx.all j hj hq
            refine ⟨x, ?_, hxi⟩
            simp only [List.mem_append, List.mem_cons] at hxm ⊢
            rcases hxm with h | h | h
            · exact .inl h
            · exfalso; subst h; exact hne ⟨by omega, by rw [hx.size]; exact hj⟩
            · exact .inr h
        · rw [getD_set]
          have hlt : x.i ≠ i := by
            intro he
            rcases List.mem_append.1 hxm with h | h
            · have := (List.pairwise_append.1 hx.inc).2.2 x h y (by simp); omega
            · have := (List.pairwise_cons.1 (List.pairwise_append.1 hx.inc).2.1).1 x h; omega
          rw [if_neg (fun hc => hlt hc.1.symm)]
          exact hx.not x (by simp at hxm ⊢; rcases hxm with h | h <;> simp [h])
        · rw [getD_set] at hj ⊢
          split
          · rfl
          · split at hj
            · rename_i hij
              rw [← hij.1] at hk
              exact hmask k hk
            · exact hx.closed j k hj hk
      unfold wpOp
      rw [h3]
      simp only []
      have hyu : oneU tab G ops.toList o st = some (y.u, y.rs) := by rw [← hyo]; exact r1
      have hdo : ∀ d, o.dst = some d → d < n := hd o (by have := Array.mem_of_getElem? h3; simpa using this)
      have := one_sound (ops := ops) hT hG h hrb hdo hyu (wpAny P .any ops Q fuel (L.setIfInBounds i true)) Q
        (fun a' w' lim' β' hs => ih _ _ _ _ _ _ _ (by simp at hl ⊢; omega) hL r2 hs)
      split
      · rename_i hw; rw [if_pos hw] at this; exact .inl this
      · rename_i hw; rw [if_neg hw] at this; exact this

theorem Sim.drew (h : Sim w0 lim0 rb n st a w lim β) : Sim w0 lim0 rb n st a { w with drawn := w.drawn + 1 } lim β := by
  have he : Ext w lim { w with drawn := w.drawn + 1 } lim := ⟨Nat.le_refl _, fun _ _ _ _ _ h => h, fun _ _ _ h => h⟩
  have locv : ∀ l, locV st a { w with drawn := w.drawn + 1 } β l = locV st a w β l := fun l => by cases l <;> rfl
  have has : ∀ l g, HasL st a { w with drawn := w.drawn + 1 } β l g → HasL st a w β l g := by
    rintro l g ⟨T, v, h1, h2, h3⟩
    rw [locv] at h2
    obtain ⟨e, hT, xs, hc⟩ := h.vis h1 h2 h3.oty
    exact ⟨T, v, h1, h2, (Blk_ext he hT hc).1 h3⟩
  refine ⟨h.size, h.defers, ⟨h.grow.os, h.grow.tape, h.grow.output, h.grow.size, h.grow.block⟩, h.limOld, fun t => ?_, fun b d hb => ?_, h.inj, fun l hl => ?_, fun l g hl hg => h.ownb l g hl (has l g hg), fun l l' g h1 h2 h3 h4 => h.sep l l' g h1 h2 (has l g h3) (has l' g h4), fun t l h1 h2 => ?_, fun d hd => ?_, ?_⟩
  · have := h.env t
    cases hav : (st.env t).av <;> rw [hav] at this
    case any => trivial
    case skp => exact this
    case nil => exact this
    case dat ty x => exact TRep.mono he this
    case cel => exact this
    case ref ty x =>
      obtain ⟨b, o, cs, h1, h2, h3, h4, h5⟩ := this
      exact ⟨b, o, cs, h1, h2, h3.mono he, h4, h5⟩
    case tup ty x =>
      obtain ⟨vs, h1, h2⟩ := this
      exact ⟨vs, h1, h2.mono he⟩
    case rdr => exact this
    case xf => exact this
    case xp => exact this
    case xt => exact this
    case cx => exact this
    case fn => exact this
    case xe => exact this
  · obtain ⟨cells, e, h1, h2, h3, h4⟩ := h.box b d hb
    exact ⟨cells, e, h1, h2.mono he, h3, h4⟩
  · obtain ⟨T, v, h1, h2, h3⟩ := h.own l hl
    obtain ⟨e, hT, xs, hc⟩ := h.vis h1 h2 h3.oty
    exact ⟨T, v, h1, by rw [locv]; exact h2, OwnT_ext he hT hc h3 (fun _ _ => ⟨rfl, rfl⟩)⟩
  · rw [locv]; exact h.tag t l h1 h2
  · obtain ⟨b, cells, e, h1, h2, h3, h4, h5⟩ := h.rd d hd
    exact ⟨b, cells, e, h1, h2, h3, h4.mono he, h5⟩
  · exact h.xs.keep rfl rfl (fun _ _ _ => ⟨rfl, rfl⟩) (fun _ _ _ _ => rfl) (fun _ _ => ⟨rfl, rfl⟩) (fun b d hb => h.xs.offb hb) (fun l g hl hg => h.xs.off hl (has l g hg))

theorem draw_sound (hT : TabOk P tab) (hG : GamOk P G) (hm : P.follows .mixedOrders = true) {id : Nat} {ops : Array Oper} {Q : Exit → Act → World → Prop} (hrb : ∀ k, some k = rb → k < w0.heap.size)
    (hd : ∀ o ∈ ops.toList, ∀ d, o.dst = some d → d < n) {fs : List FP} (hr : runT tab G ops.toList ops.toList st = some (st', fs)) (hE : edgesOk ops.toList 0 = true) (hP : pairsOk (masks ops.toList []) [] fs 0 = true)
    (h : Sim w0 lim0 rb n st a w lim β) (hQ : ∀ a' w' lim' β', Sim w0 lim0 rb n st' a' w' lim' β' → Q .normal a' w') : (Code.region id ops true).wp P Q a w := by
  refine wp_region_any hm ?_
  obtain ⟨xs, k1, k2, k3, k4⟩ := runT_items (i := 0) hr
  have hlen : xs.length = ops.size := by have := congrArg List.length k3; simpa using this
  have hi : ∀ (j : Nat) (x : Item), xs[j]? = some x → x.i = j := by
    intro j x hj
    have h1 : (xs.map (·.i))[j]? = some x.i := by simp [hj]
    rw [k4] at h1
    have hlt := (List.getElem?_eq_some_iff.1 h1).1
    simp at hlt
    rw [List.getElem?_range' (by simpa using hlt)] at h1
    injection h1 with h1; omega
  have hpw : ∀ (R : Item → Item → Prop), (∀ (k j : Nat) x y, k < j → xs[k]? = some x → xs[j]? = some y → R x y) → xs.Pairwise R := by
    intro R hR
    rw [List.pairwise_iff_getElem]
    intro i j hi' hj' hij
    exact hR i j _ _ hij (List.getElem?_eq_getElem hi') (List.getElem?_eq_getElem hj')
  refine any_sound hT hG rfl hE hrb hd hQ ops.size _ xs _ _ _ _ _ hlen ⟨by simp, fun x hx => ?_, ?_, ?_, fun i hi' _ => ?_, fun x hx => ?_, fun i k hL _ => ?_⟩ k1 h.drew
  · obtain ⟨j, hj⟩ := List.getElem?_of_mem hx
    have h1 : (xs.map (·.o))[j]? = some x.o := by simp [hj]
    rw [k3] at h1
    rw [hi j x hj]
    simpa using h1
  · exact hpw _ fun k j x y hkj hx hy => by rw [hi k x hx, hi j y hy]; exact hkj
  · refine hpw _ fun k j x y hkj hx hy => ?_
    rw [hi k x hx, hi j y hy]
    have hfs : ∀ (j : Nat) x, xs[j]? = some x → fs[j]? = some x.fp := fun j x hj => by rw [← k2]; simp [hj]
    exact pairsOk_spec (seen := []) hP k j x.fp y.fp hkj (by simpa using hfs k x hx) (by simpa using hfs j y hy) (by simp)
  · have : i < xs.length := by omega
    exact ⟨xs[i], by simp, hi i _ (List.getElem?_eq_getElem this)⟩
  · obtain ⟨j, hj⟩ := List.getElem?_of_mem hx
    have hlt := (List.getElem?_eq_some_iff.1 hj).1
    rw [hi j x hj, Array.getD_eq_getD_getElem?]
    simp [show j < ops.size by omega]
  · exfalso
    rw [Array.getD_eq_getD_getElem?] at hL
    by_cases hlt : i < ops.size <;> simp [hlt] at hL
end
end Go.Den

namespace Go.Den
section
variable {P : Program} {tab : Tab} {G : Gam} {w0 : Base} {lim0 : Lim} {rb : Option Nat} {n : Nat}
variable {st st' : St} {a : Act} {w : World} {lim : Lim} {β : Mp}

structure Weak (st' st : St) : Prop where
  env : ∀ t, ((st'.env t).av = .any ∨ ∃ f, (st'.env t).av = .fn f ∧ (st.env t).av = .fn f) ∨ (∃ ty x, (st'.env t).av = .dat ty x ∧ AV.as ty (st.env t).av = some x) ∨
    (∃ b p d, (st'.env t).av = .cel b p ∧ (st.env t).av = .cel b p ∧ st'.box b = some d) ∨ (∃ d, (st'.env t).av = .rdr [] ∧ (st.env t).av = .rdr [] ∧ st'.rd = some d) ∨
    (∃ r p d, (st'.env t).av = .xf r p ∧ (st.env t).av = .xf r p ∧ st'.io r = some d) ∨ (∃ b p d, (st'.env t).av = .cx b p ∧ (st.env t).av = .cx b p ∧ st'.xb b = some d)
  tag : ∀ t, (st'.env t).tag = none
  box : ∀ b d, st'.box b = some d → st.box b = some d
  own : ∀ l, st'.own l = true → st.own l = true
  ownT : ∀ t p, st'.own (.tmp t p) = true → ∃ ty x, (st'.env t).av = .dat ty x
  ownB : ∀ b p, st'.own (.box b p) = true → ∃ d, st'.box b = some d
  rd : ∀ d, st'.rd = some d → st.rd = some d
  io : ∀ r d, st'.io r = some d → st.io r = some d
  xb : ∀ b t o, st'.xb b = some (t, o) → st.xb b = some (t, o) ∧ ∀ r q, o = some (r, q) → ∃ d, st'.io r = some d

theorem as_dat {t : Ty} {av : AV} {x : t.val} (h : AV.as t av = some x) : av = .dat t x ∨ av = .nil := by
  cases av with
  | dat u y =>
    obtain ⟨h1, h2⟩ := cast_some h
    subst h1; subst h2; exact .inl rfl
  | nil => exact .inr rfl
  | _ => cases h

theorem Sim.weak (h : Sim w0 lim0 rb n st a w lim β) (hw : Weak st' st) : Sim w0 lim0 rb n st' a w lim β := by
  have loc : ∀ l, st'.own l = true → locTy st' l = locTy st l ∧ locV st' a w β l = locV st a w β l := by
    intro l hl
    have ho := hw.own l hl
    cases l with
    | tmp t p =>
      obtain ⟨ty, x, h1⟩ := hw.ownT t p hl
      obtain ⟨e, v, k1, k2, _⟩ := h.own _ ho
      have : (st.env t).av = .dat ty x := by
        rcases hw.env t with (h2 | ⟨_, h2, _⟩) | ⟨ty', x', h2, h3⟩ | ⟨b, q, d, h2, _⟩ | ⟨d, h2, _⟩ | ⟨_, _, _, h2, _⟩ | ⟨_, _, _, h2, _⟩
        · rw [h1] at h2; cases h2
        · rw [h1] at h2; cases h2
        · rw [h1] at h2; injection h2 with h4 h5; subst h4; have h5 := eq_of_heq h5; subst h5
          rcases as_dat h3 with h6 | h6
          · exact h6
          · simp only [locTy, h6] at k1; cases k1
        · rw [h1] at h2; cases h2
        · rw [h1] at h2; cases h2
        · rw [h1] at h2; cases h2
        · rw [h1] at h2; cases h2
      simp only [locTy, locV, h1, this, and_self]
    | box b p =>
      obtain ⟨d, h1⟩ := hw.ownB b p hl
      have := hw.box b d h1
      simp only [locTy, locV, h1, this, and_self]
  have has : ∀ l g, st'.own l = true → HasL st' a w β l g → HasL st a w β l g := by
    rintro l g hl ⟨T, v, h1, h2, h3⟩
    obtain ⟨m1, m2⟩ := loc l hl
    exact ⟨T, v, by rw [← m1]; exact h1, by rw [← m2]; exact h2, h3⟩
  refine ⟨h.size, h.defers, h.grow, h.limOld, fun t => ?_, fun b d hb => h.box b d (hw.box b d hb), fun b c d d' h1 h2 h3 => h.inj b c d d' (hw.box b d h1) (hw.box c d' h2) h3, fun l hl => ?_, fun l g hl hg b d hb => h.ownb l g (hw.own l hl) (has l g hl hg) b d (hw.box b d hb), fun l l' g h1 h2 h3 h4 => h.sep l l' g (hw.own l h1) (hw.own l' h2) (has l g h1 h3) (has l' g h2 h4), fun t l h1 h2 => ?_, fun d hd => h.rd d (hw.rd d hd), ?_⟩
  · have ht := h.env t
    rcases hw.env t with (h2 | ⟨f, h2, h3⟩) | ⟨ty, x, h2, h3⟩ | ⟨b, q, d, h2, h3, h4⟩ | ⟨d, h2, h3, h4⟩ | ⟨r, p, d, h2, h3, h4⟩ | ⟨b, p, d, h2, h3, h4⟩
    · rw [h2]; trivial
    · rw [h3] at ht; rw [h2]; exact ht
    · rw [h2]; exact as_rep h3 ht
    · rw [h3] at ht; rw [h2]
      obtain ⟨d', k1, k2⟩ := ht
      have := hw.box b d h4
      rw [k1] at this; injection this with this; subst this
      exact ⟨d', h4, k2⟩
    · rw [h3] at ht; rw [h2]
      obtain ⟨d', b, k1, k2, k3⟩ := ht
      have := hw.rd d h4
      rw [k1] at this; injection this with this; subst this
      exact ⟨d', b, h4, k2, k3⟩
    · rw [h3] at ht; rw [h2]
      obtain ⟨d', k1, k2⟩ := ht
      have := hw.io r d h4
      rw [k1] at this; injection this with this; subst this
      exact ⟨d', h4, k2⟩
    · rw [h3] at ht; rw [h2]
      obtain ⟨t', o', k1, k2⟩ := ht
      obtain ⟨dt, dO⟩ := d
      have := (hw.xb b dt dO h4).1
      rw [k1] at this; injection this with this; injection this with e1 e2; subst e1
      exact ⟨t', dO, h4, k2⟩
  · obtain ⟨e, v, k1, k2, k3⟩ := h.own l (hw.own l hl)
    obtain ⟨m1, m2⟩ := loc l hl
    exact ⟨e, v, m1.trans k1, m2.trans k2, k3⟩
  · rw [hw.tag t] at h1; cases h1
  · have hown : ∀ l g, st'.own l = true → HasL st' a w β l g → st.own l = true ∧ HasL st a w β l g := fun l g hl hv => ⟨hw.own l hl, has l g hl hv⟩
    refine ⟨fun r d hr => h.xs.io r d (hw.io r d hr), fun r d g hr hg => h.xs.base r d g (hw.io r d hr) hg, fun r d g hr hg b d' hb => h.xs.box r d g (hw.io r d hr) hg b d' (hw.box b d' hb),
      fun r d g hr hg l hl hv => h.xs.own r d g (hw.io r d hr) hg l (hown l g hl hv).1 (hown l g hl hv).2, fun r d r' d' g hr hr' => h.xs.dis r d r' d' g (hw.io r d hr) (hw.io r' d' hr'), fun b t o hb => ?_, fun b t o hb => ?_,
      fun b c t o t' o' hb hc => h.xs.xinj b c t o t' o' (hw.xb b t o hb).1 (hw.xb c t' o' hc).1, fun d hd => h.xs.fix d (hw.io 0 d hd), fun d hd => h.xs.kx d (hw.io 0 d hd)⟩
    · obtain ⟨k1, k2⟩ := hw.xb b t o hb
      obtain ⟨cells, e, m1, m2, m3, m4, m5⟩ := h.xs.xb b t o k1
      refine ⟨cells, e, m1, m2, m3, m4, fun r q ho => ?_⟩
      obtain ⟨d, n1, n2⟩ := m5 r q ho
      obtain ⟨d', n4⟩ := k2 r q ho
      have := hw.io r d' n4
      rw [n1] at this; injection this with this; subst this
      exact ⟨d, n4, n2⟩
    · obtain ⟨k1, _⟩ := hw.xb b t o hb
      obtain ⟨m1, m2, m3⟩ := h.xs.xbox b t o k1
      exact ⟨fun c d hc => m1 c d (hw.box c d hc), fun l hl hv => m2 l (hown l _ hl hv).1 (hown l _ hl hv).2, fun r d hr => m3 r d (hw.io r d hr)⟩

theorem swT_swT (r c k : Tmp) : swT r c (swT r c k) = k := by
  unfold swT
  by_cases h1 : k = r
  · subst h1
    rw [Nat.beq_refl, cnd_true]
    by_cases h2 : c = k
    · subst h2; rw [Nat.beq_refl, cnd_true]
    · have : Nat.beq c k = false := by
        cases hq : Nat.beq c k with
        | true => exact absurd (nbeq hq) h2
        | false => rfl
      rw [this, cnd_false, Nat.beq_refl, cnd_true]
  · have e1 : Nat.beq k r = false := by
      cases hq : Nat.beq k r with
      | true => exact absurd (nbeq hq) h1
      | false => rfl
    rw [e1, cnd_false]
    by_cases h2 : k = c
    · subst h2
      rw [Nat.beq_refl, cnd_true, Nat.beq_refl, cnd_true]
    · have e2 : Nat.beq k c = false := by
        cases hq : Nat.beq k c with
        | true => exact absurd (nbeq hq) h2
        | false => rfl
      rw [e2, cnd_false, e1, cnd_false, e2, cnd_false]
theorem swT_zero {r c : Tmp} (hr : r ≠ 0) (hc : c ≠ 0) : swT r c 0 = 0 := by
  have e1 : Nat.beq 0 r = false := by
    cases hq : Nat.beq 0 r with
    | true => exact absurd (nbeq hq).symm hr
    | false => rfl
  have e2 : Nat.beq 0 c = false := by
    cases hq : Nat.beq 0 c with
    | true => exact absurd (nbeq hq).symm hc
    | false => rfl
  simp only [swT, e1, e2, cnd_false]
def swM (r c : Tmp) (β : Mp) : Mp := { β with V := fun k => β.V (swT r c k), B := fun k => β.B (swT r c k) }
theorem Sim.swap (h : Sim w0 lim0 rb n st a w lim β) {r c : Tmp} (hr : r ≠ 0) (hc : c ≠ 0) : Sim w0 lim0 rb n (swSt r c st) a w lim (swM r c β) := by
  have lt : ∀ l, locTy (swSt r c st) l = locTy st l := fun l => by
    cases l with
    | tmp t p => simp only [locTy, swSt]; cases (st.env t).av <;> rfl
    | box b p => rfl
  have lv : ∀ l, locV (swSt r c st) a w (swM r c β) l = locV st a w β l := fun l => by
    cases l with
    | tmp t p => simp only [locV, swSt]; cases (st.env t).av <;> rfl
    | box b p => rfl
  have lh : ∀ l g, HasL (swSt r c st) a w (swM r c β) l g ↔ HasL st a w β l g := fun l g => by unfold HasL; rw [lt, lv]
  have xb0 : ∀ {b t o}, (swSt r c st).xb b = some (t, o) → ∃ o', st.xb b = some (t, o') ∧ ∀ k q, o = some (k, q) → o' = some (swT r c k, q) := fun {b t o} hb => by
    have hb : swXb r c (st.xb b) = some (t, o) := hb
    cases hx : st.xb b with
    | none => rw [hx] at hb; cases hb
    | some y =>
      obtain ⟨t', o'⟩ := y
      rw [hx] at hb
      cases o' with
      | none =>
        injection hb with hb; injection hb with e1 e2
        subst e1; subst e2
        exact ⟨none, rfl, fun k q hk => by cases hk⟩
      | some kq =>
        obtain ⟨k, q⟩ := kq
        injection hb with hb; injection hb with e1 e2
        subst e1; subst e2
        refine ⟨_, rfl, fun k' q' hk => ?_⟩
        injection hk with hk; injection hk with e1 e2
        subst e1; subst e2
        rw [swT_swT]
  refine ⟨h.size, h.defers, h.grow, h.limOld, fun t => ?_, h.box, h.inj, fun l hl => ?_, fun l g hl hg => h.ownb l g hl ((lh l g).1 hg), fun l l' g h1 h2 h3 h4 => h.sep l l' g h1 h2 ((lh l g).1 h3) ((lh l' g).1 h4), fun t l h1 h2 => ?_, h.rd, ?_⟩
  · have ht := h.env t
    show ERep (swSt r c st) w lim (swM r c β) rb (swAV r c (st.env t).av) (tmpOf a t)
    cases hav : (st.env t).av with
    | xf k p =>
      rw [hav] at ht
      obtain ⟨x, k1, k2⟩ := ht
      exact ⟨x, by show st.io (swT r c (swT r c k)) = some x; rw [swT_swT]; exact k1, by simp only [swM, swT_swT]; exact k2⟩
    | xp k p m q =>
      rw [hav] at ht
      obtain ⟨x, k1, k2⟩ := ht
      exact ⟨x, by show st.io (swT r c (swT r c k)) = some x; rw [swT_swT]; exact k1, by simp only [swM, swT_swT]; exact k2⟩
    | xt k =>
      rw [hav] at ht
      obtain ⟨x, k1, k2⟩ := ht
      exact ⟨x, by show st.io (swT r c (swT r c k)) = some x; rw [swT_swT]; exact k1, by simp only [swM, swT_swT]; exact k2⟩
    | cx b p =>
      rw [hav] at ht
      obtain ⟨t', o, k1, k2⟩ := ht
      have : ∃ o', (swSt r c st).xb b = some (t', o') := by
        show ∃ o', swXb r c (st.xb b) = some (t', o')
        rw [k1]
        cases o with
        | none => exact ⟨_, rfl⟩
        | some kq => exact ⟨_, rfl⟩
      obtain ⟨o', k3⟩ := this
      exact ⟨t', o', k3, k2⟩
    | xe m q =>
      rw [hav] at ht
      obtain ⟨x, k1, k2⟩ := ht
      exact ⟨x, by show st.io (swT r c 0) = some x; rw [swT_zero hr hc]; exact k1, by simp only [swM, swT_zero hr hc]; exact k2⟩
    | _ => rw [hav] at ht; exact ht
  · rw [lt, lv]; exact h.own l hl
  · have h1 : (st.env t).tag = some (true, l) := h1
    obtain ⟨k1, e, x, k2, k3⟩ := h.tag t l h1 h2
    refine ⟨by rw [lv]; exact k1, e, x, ?_, by rw [lt]; exact k3⟩
    show swAV r c (st.env t).av = _
    rw [k2]; rfl
  · refine ⟨fun k x hk => h.xs.io _ x hk, fun k x g hk hg => h.xs.base _ x g hk hg, fun k x g hk hg b d' hb => h.xs.box _ x g hk hg b d' hb, fun k x g hk hg l hl hv => ?_, fun k x k' x' g hk hk' hg hg' => ?_, fun b t o hb => ?_, fun b t o hb => ?_, fun b b' t o t' o' hb hb' => ?_, fun x hx hm => ?_, fun x hx => ?_⟩
    · rw [lh] at hv
      exact h.xs.own _ x g hk hg l hl hv
    · have := h.xs.dis _ x _ x' g hk hk' hg hg'
      have e := congrArg (swT r c) this
      rwa [swT_swT, swT_swT] at e
    · obtain ⟨o', k1, k2⟩ := xb0 hb
      obtain ⟨cells, e, m1, m2, m3, m4, m5⟩ := h.xs.xb b t o' k1
      refine ⟨cells, e, m1, m2, m3, m4, fun k q ho => ?_⟩
      obtain ⟨x, n1, n2⟩ := m5 _ q (k2 k q ho)
      exact ⟨x, n1, n2⟩
    · obtain ⟨o', k1, _⟩ := xb0 hb
      obtain ⟨m1, m2, m3⟩ := h.xs.xbox b t o' k1
      exact ⟨m1, fun l hl hv => by rw [lh] at hv; exact m2 l hl hv, fun k x hk => m3 _ x hk⟩
    · obtain ⟨o1, k1, _⟩ := xb0 hb
      obtain ⟨o2, k2, _⟩ := xb0 hb'
      exact h.xs.xinj b b' t o1 t' o2 k1 k2
    · have e0 := swT_zero hr hc
      have hx : st.io (swT r c 0) = some x := hx
      rw [e0] at hx
      simp only [swM, e0]
      exact h.xs.fix x hx hm
    · have e0 := swT_zero hr hc
      have hx : st.io (swT r c 0) = some x := hx
      rw [e0] at hx
      simp only [swM, e0]
      exact h.xs.kx x hx
theorem Sim.ren : ∀ (es : List (Tmp × ShE)) {st : St} {β : Mp}, Sim w0 lim0 rb n st a w lim β → ∃ β', Sim w0 lim0 rb n (renS st es) a w lim β'
  | [], _, β, h => ⟨β, h⟩
  | (t, .xf r p) :: es, st, β, h => by
    simp only [renS]
    split
    · rename_i c q hav
      cases h1 : Nat.beq r c with
      | true => exact h.ren es
      | false =>
      cases h2 : Nat.beq r 0 with
      | true => exact h.ren es
      | false =>
      cases h3 : Nat.beq c 0 with
      | true => exact h.ren es
      | false =>
        have hr : r ≠ 0 := fun e => by subst e; cases h2
        have hc : c ≠ 0 := fun e => by subst e; cases h3
        exact (h.swap hr hc).ren es
    · exact h.ren es
  | (t, .dat _ _) :: es, _, _, h => h.ren es
  | (t, .cel _ _) :: es, _, _, h => h.ren es
  | (t, .rdr) :: es, _, _, h => h.ren es
  | (t, .cx _ _) :: es, _, _, h => h.ren es
  | (t, .fn _) :: es, _, _, h => h.ren es

theorem allOwn_spec {own : Loc → Bool} {f : List Nat → Loc} : ∀ {ps : List (List Nat)}, allOwn own f ps = true → ∀ p, inPaths p ps = true → own (f p) = true
  | [], _, p, hp => by cases hp
  | q :: ps, h, p, hp => by
    simp only [allOwn] at h
    cases ho : own (f q) with
    | false => rw [ho] at h; cases h
    | true =>
      rw [ho] at h
      simp only [inPaths] at hp
      cases hb : pbeq p q with
      | true => rw [pbeq_iff.1 hb]; exact ho
      | false => rw [hb] at hp; exact allOwn_spec h p hp

theorem weak_rd : ∀ {r : Option Ty} {x : (rdTy r).val}, packRd st r = some x → Weak (unpackRd st00 r x) st ∧ (∀ b d, (unpackRd st00 r x).box b = some d → False) ∧ (isSomeTy r = true → ∃ d, (unpackRd st00 r x).rd = some d) := by
  intro r x h
  cases r with
  | none => exact ⟨⟨fun t => .inl (.inl rfl), fun t => rfl, fun _ _ h => (by cases h), fun _ h => (by cases h), fun _ _ h => (by cases h), fun _ _ h => (by cases h), fun _ h => (by cases h), fun _ _ h => (by cases h), fun _ _ _ h => (by cases h)⟩, fun _ _ h => (by cases h), fun h => (by cases h)⟩
  | some t =>
    unfold packRd at h
    cases hd : st.rd with
    | none => rw [hd] at h; cases h
    | some d =>
      rw [hd] at h
      obtain ⟨h1, h2⟩ := cast_some h
      obtain ⟨dt, dv⟩ := d
      simp only at h1 h2
      subst h1; subst h2
      refine ⟨⟨fun t => .inl (.inl rfl), fun t => rfl, fun _ _ h => (by cases h), fun _ h => (by cases h), fun _ _ h => (by cases h), fun _ _ h => (by cases h), fun d' h => ?_, fun _ _ h => (by cases h), fun _ _ _ h => (by cases h)⟩, fun _ _ h => (by cases h), fun _ => ⟨_, rfl⟩⟩
      injection h with h; subst h; exact hd

theorem weak_io {r : Option Ty} : ∀ {is : List (Tmp × Ty)} {x : (ioTy is (rdTy r)).val}, packIo st r is = some x →
    Weak (unpackIo st00 r is x) st ∧ (∀ b d, (unpackIo st00 r is x).box b = some d → False) ∧ (isSomeTy r = true → ∃ d, (unpackIo st00 r is x).rd = some d) ∧ (∀ c, ioIn c is = true → ∃ d, (unpackIo st00 r is x).io c = some d) ∧ (∀ b, (unpackIo st00 r is x).xb b = none)
  | [], x, h => by
    obtain ⟨h1, h2, h3⟩ := weak_rd h
    exact ⟨h1, h2, h3, fun c hc => (by cases hc), fun b => by cases r <;> rfl⟩
  | (c, t) :: is, x, h => by
    simp only [packIo] at h
    cases hb : st.io c with
    | none => rw [hb] at h; cases h
    | some d =>
      rw [hb] at h; simp only [] at h
      cases hc : Ty.cast d.1 t d.2 with
      | none => rw [hc] at h; cases h
      | some y =>
        cases hp : packIo st r is with
        | none => rw [hc, hp] at h; cases h
        | some z =>
          rw [hc, hp] at h
          injection h with h; subst h
          obtain ⟨h1, h2⟩ := cast_some hc
          obtain ⟨dt, dv⟩ := d
          simp only at h1 h2
          subst h1; subst h2
          obtain ⟨k1, k2, k3, k4, k5⟩ := weak_io (is := is) hp
          have hio : ∀ k, (unpackIo st00 r ((c, dt) :: is) (y, z)).io k = cnd (Nat.beq k c) (some ⟨dt, y⟩) ((unpackIo st00 r is z).io k) := fun k => rfl
          have keep : ∀ k, (∃ d, (unpackIo st00 r is z).io k = some d) → ∃ d, (unpackIo st00 r ((c, dt) :: is) (y, z)).io k = some d := by
            intro k hk
            rw [hio]
            cases Nat.beq k c with
            | true => exact ⟨_, rfl⟩
            | false => exact hk
          refine ⟨⟨fun t => ?_, k1.tag, k1.box, k1.own, k1.ownT, k1.ownB, k1.rd, fun k d hk => ?_, fun b t o hb' => ?_⟩, k2, k3, fun k hk => ?_, k5⟩
          · rcases k1.env t with h2 | h2 | h2 | h2 | ⟨k, p, d, h2, h3, h4⟩ | h2
            · exact .inl h2
            · exact .inr (.inl h2)
            · exact .inr (.inr (.inl h2))
            · exact .inr (.inr (.inr (.inl h2)))
            · obtain ⟨d', hd'⟩ := keep k ⟨d, h4⟩
              exact .inr (.inr (.inr (.inr (.inl ⟨k, p, d', h2, h3, hd'⟩))))
            · exact .inr (.inr (.inr (.inr (.inr h2))))
          · rw [hio] at hk
            cases hq : Nat.beq k c with
            | true => rw [hq] at hk; rw [nbeq hq, hb]; exact hk
            | false => rw [hq] at hk; exact k1.io k d hk
          · have hb' : (unpackIo st00 r is z).xb b = some (t, o) := hb'
            rw [k5] at hb'; cases hb'
          · simp only [ioIn] at hk
            cases hq : Nat.beq k c with
            | true => rw [hio, hq]; exact ⟨_, rfl⟩
            | false => rw [hq] at hk; exact keep k (k4 k hk)
theorem xbAll_spec {is : List (Tmp × Ty)} : ∀ {bs : List (Tmp × Ty × Tmp × List Nat)}, xbAll st is bs = true →
    (∀ b t o, unpackXb bs b = some (t, o) → st.xb b = some (t, o) ∧ ∀ r q, o = some (r, q) → ioIn r is = true) ∧ ∀ b, xbIn b bs = true → ∃ d, unpackXb bs b = some d
  | [], _ => ⟨fun _ _ _ h => (by cases h), fun _ h => (by cases h)⟩
  | (b, t, r, q) :: bs, h => by
    simp only [xbAll] at h
    split at h
    · rename_i u r' q' hx
      cases h1 : Ty.beq u t with
      | false => rw [h1] at h; cases h
      | true =>
      cases h2 : Nat.beq r' r with
      | false => rw [h1, h2] at h; cases h
      | true =>
      cases h3 : pbeq q' q with
      | false => rw [h1, h2, h3] at h; cases h
      | true =>
      cases h4 : ioIn r is with
      | false => rw [h1, h2, h3, h4] at h; cases h
      | true =>
        rw [h1, h2, h3, h4] at h
        have h1 := Ty.of_beq h1
        have h2 := nbeq h2
        have h3 := pbeq_iff.1 h3
        subst h1; subst h2; subst h3
        obtain ⟨k1, k2⟩ := xbAll_spec (bs := bs) h
        refine ⟨fun c t' o hc => ?_, fun c hc => ?_⟩
        · simp only [unpackXb] at hc
          cases hq : Nat.beq c b with
          | true =>
            rw [hq] at hc
            injection hc with hc; injection hc with e1 e2; subst e1; subst e2
            rw [nbeq hq]
            exact ⟨hx, fun r2 q2 he => by injection he with he; injection he with he _; rw [← he]; exact h4⟩
          | false => rw [hq] at hc; exact k1 c t' o hc
        · simp only [xbIn] at hc
          simp only [unpackXb]
          cases hq : Nat.beq c b with
          | true => exact ⟨_, rfl⟩
          | false => rw [hq] at hc; exact k2 c hc
    · cases h

structure Has (S : Shp) (s : St) : Prop where
  rd : isSomeTy S.rd = true → ∃ d, s.rd = some d
  io : ∀ c, ioIn c S.io = true → ∃ d, s.io c = some d
  xb : ∀ b, xbIn b S.xb = true → ∃ d, s.xb b = some d
theorem weak_box {S : Shp} : ∀ {bs : List (Tmp × Ty × List (List Nat))} {x : (boxTy bs S.low).val}, packBox st S bs = some x →
    Weak (unpackBox st00 S bs x) st ∧ (∀ b, boxIn b bs = true → ∃ d, (unpackBox st00 S bs x).box b = some d) ∧ Has S (unpackBox st00 S bs x)
  | [], x, h => by
    simp only [packBox] at h
    cases hx : xbAll st S.io S.xb with
    | false => rw [hx] at h; cases h
    | true =>
      rw [hx] at h
      obtain ⟨h1, h2, h3, h4, h5⟩ := weak_io (x := x) h
      obtain ⟨g1, g2⟩ := xbAll_spec hx
      refine ⟨⟨fun t => ?_, h1.tag, h1.box, h1.own, h1.ownT, h1.ownB, h1.rd, h1.io, fun b t o hb => ?_⟩, fun b hb => (by cases hb), h3, h4, g2⟩
      · rcases h1.env t with k | k | k | k | k | ⟨b, p, d, _, _, k⟩
        · exact .inl k
        · exact .inr (.inl k)
        · exact .inr (.inr (.inl k))
        · exact .inr (.inr (.inr (.inl k)))
        · exact .inr (.inr (.inr (.inr (.inl k))))
        · rw [h5] at k; cases k
      · obtain ⟨k1, k2⟩ := g1 b t o hb
        exact ⟨k1, fun r q ho => h4 r (k2 r q ho)⟩
  | (b, t, ps) :: bs, x, h => by
    simp only [packBox] at h
    cases hb : st.box b with
    | none => rw [hb] at h; cases h
    | some d =>
      rw [hb] at h; simp only [] at h
      cases hc : Ty.cast d.1 t d.2 with
      | none => rw [hc] at h; cases h
      | some y =>
        cases ho : allOwn st.own (.box b ·) ps with
        | false => rw [hc, ho] at h; cases h
        | true =>
          cases hp : packBox st S bs with
          | none => rw [hc, ho, hp] at h; cases h
          | some z =>
            rw [hc, ho, hp] at h
            injection h with h; subst h
            obtain ⟨h1, h2⟩ := cast_some hc
            obtain ⟨dt, dv⟩ := d
            simp only at h1 h2
            subst h1; subst h2
            obtain ⟨k1, k2, k3⟩ := weak_box (bs := bs) hp
            have hbox : ∀ c, (unpackBox st00 S ((b, dt, ps) :: bs) (y, z)).box c = cnd (Nat.beq c b) (some ⟨dt, y⟩) ((unpackBox st00 S bs z).box c) := fun c => rfl
            have keep : ∀ c, (∃ d, (unpackBox st00 S bs z).box c = some d) → ∃ d, (unpackBox st00 S ((b, dt, ps) :: bs) (y, z)).box c = some d := by
              intro c hc
              rw [hbox]
              cases Nat.beq c b with
              | true => exact ⟨_, rfl⟩
              | false => exact hc
            refine ⟨⟨fun t => ?_, k1.tag, fun c d hc => ?_, fun l hl => ?_, k1.ownT, fun c p hc => ?_, k1.rd, k1.io, k1.xb⟩, fun c hc => ?_, ⟨k3.rd, k3.io, k3.xb⟩⟩
            · rcases k1.env t with h2 | h2 | ⟨c, q, d, h2, h3, h4⟩ | h2
              · exact .inl h2
              · exact .inr (.inl h2)
              · obtain ⟨d', hd'⟩ := keep c ⟨d, h4⟩
                exact .inr (.inr (.inl ⟨c, q, d', h2, h3, hd'⟩))
              · exact .inr (.inr (.inr h2))
            · rw [hbox] at hc
              cases hq : Nat.beq c b with
              | true => rw [hq] at hc; rw [nbeq hq, hb]; exact hc
              | false => rw [hq] at hc; exact k1.box c d hc
            · cases l with
              | tmp t p => exact k1.own _ hl
              | box c p =>
                have hl : cnd (Nat.beq c b) (inPaths p ps) ((unpackBox st00 S bs z).own (.box c p)) = true := hl
                cases hq : Nat.beq c b with
                | true => rw [hq] at hl; rw [nbeq hq]; exact allOwn_spec ho p hl
                | false => rw [hq] at hl; exact k1.own _ hl
            · have hc : cnd (Nat.beq c b) (inPaths p ps) ((unpackBox st00 S bs z).own (.box c p)) = true := hc
              rw [hbox]
              cases hq : Nat.beq c b with
              | true => exact ⟨_, rfl⟩
              | false => rw [hq] at hc; exact k1.ownB c p hc
            · simp only [boxIn] at hc
              cases hq : Nat.beq c b with
              | true => rw [hbox, hq]; exact ⟨_, rfl⟩
              | false => rw [hq] at hc; exact keep c (k2 c hc)

theorem weak_putE {s : St} {t : Tmp} {v : AV} {ps : List (List Nat)} (h : Weak s st) (hv : (∃ ty x, v = .dat ty x ∧ AV.as ty (st.env t).av = some x ∧ allOwn st.own (.tmp t ·) ps = true) ∨
    (ps = [] ∧ ((∃ b p d, v = .cel b p ∧ (st.env t).av = .cel b p ∧ s.box b = some d) ∨ (∃ d, v = .rdr [] ∧ (st.env t).av = .rdr [] ∧ s.rd = some d) ∨ (∃ r p d, v = .xf r p ∧ (st.env t).av = .xf r p ∧ s.io r = some d) ∨ (∃ b p d, v = .cx b p ∧ (st.env t).av = .cx b p ∧ s.xb b = some d)))) : Weak (putE s t v ps) st := by
  have he : ∀ u, (putE s t v ps).env u = cnd (Nat.beq u t) ⟨v, none⟩ (s.env u) := fun u => rfl
  have ho : ∀ u p, (putE s t v ps).own (.tmp u p) = cnd (Nat.beq u t) (inPaths p ps) (s.own (.tmp u p)) := fun u p => rfl
  refine ⟨fun u => ?_, fun u => ?_, h.box, fun l hl => ?_, fun u p hu => ?_, h.ownB, h.rd, h.io, h.xb⟩
  · rw [he]
    cases hq : Nat.beq u t with
    | false => exact h.env u
    | true =>
      rw [nbeq hq]
      rcases hv with ⟨ty, x, h1, h2, _⟩ | ⟨_, ⟨b, p, d, h1, h2, h3⟩ | ⟨d, h1, h2, h3⟩ | ⟨r, p, d, h1, h2, h3⟩ | ⟨b, p, d, h1, h2, h3⟩⟩
      · exact .inr (.inl ⟨ty, x, h1, h2⟩)
      · exact .inr (.inr (.inl ⟨b, p, d, h1, h2, h3⟩))
      · exact .inr (.inr (.inr (.inl ⟨d, h1, h2, h3⟩)))
      · exact .inr (.inr (.inr (.inr (.inl ⟨r, p, d, h1, h2, h3⟩))))
      · exact .inr (.inr (.inr (.inr (.inr ⟨b, p, d, h1, h2, h3⟩))))
  · rw [he]
    cases Nat.beq u t with
    | false => exact h.tag u
    | true => rfl
  · cases l with
    | box c p => exact h.own _ hl
    | tmp u p =>
      rw [ho] at hl
      cases hq : Nat.beq u t with
      | false => rw [hq] at hl; exact h.own _ hl
      | true =>
        rw [hq] at hl; rw [nbeq hq]
        rcases hv with ⟨ty, x, _, _, h3⟩ | ⟨rfl, _⟩
        · exact allOwn_spec h3 p hl
        · cases hl
  · rw [ho] at hu
    rw [he]
    cases hq : Nat.beq u t with
    | false => rw [hq] at hu; exact h.ownT u p hu
    | true =>
      rw [hq] at hu
      rcases hv with ⟨ty, x, h1, _, _⟩ | ⟨rfl, _⟩
      · exact ⟨ty, x, h1⟩
      · cases hu

theorem weak_putF {s : St} {t : Tmp} {f : FuncId} (h : Weak s st) (hv : (st.env t).av = .fn f) : Weak (putE s t (.fn f) []) st := by
  have he : ∀ u, (putE s t (.fn f) []).env u = cnd (Nat.beq u t) ⟨.fn f, none⟩ (s.env u) := fun u => rfl
  have ho : ∀ u p, (putE s t (.fn f) []).own (.tmp u p) = cnd (Nat.beq u t) (inPaths p []) (s.own (.tmp u p)) := fun u p => rfl
  refine ⟨fun u => ?_, fun u => ?_, h.box, fun l hl => ?_, fun u p hu => ?_, h.ownB, h.rd, h.io, h.xb⟩
  · rw [he]
    cases hq : Nat.beq u t with
    | false => exact h.env u
    | true => rw [nbeq hq]; exact .inl (.inr ⟨f, rfl, hv⟩)
  · rw [he]
    cases Nat.beq u t with
    | false => exact h.tag u
    | true => rfl
  · cases l with
    | box c p => exact h.own _ hl
    | tmp u p =>
      rw [ho] at hl
      cases hq : Nat.beq u t with
      | false => rw [hq] at hl; exact h.own _ hl
      | true => rw [hq] at hl; cases hl
  · rw [ho] at hu
    rw [he]
    cases hq : Nat.beq u t with
    | false => rw [hq] at hu; exact h.ownT u p hu
    | true => rw [hq] at hu; cases hu
theorem weak_env {S : Shp} : ∀ {es : List (Tmp × ShE)} {x : (envTy es (boxTy S.box S.low)).val}, packEnv st S es = some x →
    Weak (unpackEnv st00 S es x) st ∧ (∀ b, boxIn b S.box = true → ∃ d, (unpackEnv st00 S es x).box b = some d) ∧ Has S (unpackEnv st00 S es x)
  | [], x, h => weak_box h
  | (t, .dat ty ps) :: es, x, h => by
    simp only [packEnv] at h
    cases hc : AV.as ty (st.env t).av with
    | none => rw [hc] at h; cases h
    | some y =>
      cases ho : allOwn st.own (.tmp t ·) ps with
      | false => rw [hc, ho] at h; cases h
      | true =>
        cases hp : packEnv st S es with
        | none => rw [hc, ho, hp] at h; cases h
        | some z =>
          rw [hc, ho, hp] at h
          injection h with h; subst h
          obtain ⟨k1, k2, k3⟩ := weak_env (es := es) hp
          exact ⟨weak_putE k1 (.inl ⟨ty, y, rfl, hc, ho⟩), k2, ⟨k3.rd, k3.io, k3.xb⟩⟩
  | (t, .cel b p) :: es, x, h => by
    simp only [packEnv] at h
    split at h
    · rename_i c q hav
      cases hq : cnd (Nat.beq b c) (cnd (pbeq p q) (boxIn b S.box) false) false with
      | false => rw [hq] at h; cases h
      | true =>
        rw [hq] at h
        cases h1 : Nat.beq b c with
        | false => rw [h1] at hq; cases hq
        | true =>
          rw [h1] at hq
          cases h2 : pbeq p q with
          | false => rw [h2] at hq; cases hq
          | true =>
            rw [h2] at hq
            have := nbeq h1; subst this
            have := pbeq_iff.1 h2; subst this
            obtain ⟨k1, k2, k3⟩ := weak_env (es := es) (x := x) h
            obtain ⟨d, hd⟩ := k2 b hq
            exact ⟨weak_putE k1 (.inr ⟨rfl, .inl ⟨b, p, d, rfl, hav, hd⟩⟩), k2, ⟨k3.rd, k3.io, k3.xb⟩⟩
    · cases h
  | (t, .rdr) :: es, x, h => by
    simp only [packEnv] at h
    split at h
    · rename_i hav
      cases hq : isSomeTy S.rd with
      | false => rw [hq] at h; cases h
      | true =>
        rw [hq] at h
        obtain ⟨k1, k2, k3⟩ := weak_env (es := es) (x := x) h
        obtain ⟨d, hd⟩ := k3.rd hq
        exact ⟨weak_putE k1 (.inr ⟨rfl, .inr (.inl ⟨d, rfl, hav, hd⟩)⟩), k2, ⟨k3.rd, k3.io, k3.xb⟩⟩
    · cases h
  | (t, .xf r p) :: es, x, h => by
    simp only [packEnv] at h
    split at h
    · rename_i c q hav
      cases hq : cnd (Nat.beq r c) (cnd (pbeq p q) (ioIn r S.io) false) false with
      | false => rw [hq] at h; cases h
      | true =>
        rw [hq] at h
        cases h1 : Nat.beq r c with
        | false => rw [h1] at hq; cases hq
        | true =>
          rw [h1] at hq
          cases h2 : pbeq p q with
          | false => rw [h2] at hq; cases hq
          | true =>
            rw [h2] at hq
            have := nbeq h1; subst this
            have := pbeq_iff.1 h2; subst this
            obtain ⟨k1, k2, k3⟩ := weak_env (es := es) (x := x) h
            obtain ⟨d, hd⟩ := k3.io r hq
            exact ⟨weak_putE k1 (.inr ⟨rfl, .inr (.inr (.inl ⟨r, p, d, rfl, hav, hd⟩))⟩), k2, ⟨k3.rd, k3.io, k3.xb⟩⟩
    · cases h
  | (t, .cx r p) :: es, x, h => by
    simp only [packEnv] at h
    split at h
    · rename_i c q hav
      cases hq : cnd (Nat.beq r c) (cnd (pbeq p q) (xbIn r S.xb) false) false with
      | false => rw [hq] at h; cases h
      | true =>
        rw [hq] at h
        cases h1 : Nat.beq r c with
        | false => rw [h1] at hq; cases hq
        | true =>
          rw [h1] at hq
          cases h2 : pbeq p q with
          | false => rw [h2] at hq; cases hq
          | true =>
            rw [h2] at hq
            have := nbeq h1; subst this
            have := pbeq_iff.1 h2; subst this
            obtain ⟨k1, k2, k3⟩ := weak_env (es := es) (x := x) h
            obtain ⟨d, hd⟩ := k3.xb r hq
            exact ⟨weak_putE k1 (.inr ⟨rfl, .inr (.inr (.inr ⟨r, p, d, rfl, hav, hd⟩))⟩), k2, ⟨k3.rd, k3.io, k3.xb⟩⟩
    · cases h
  | (t, .fn f) :: es, x, h => by
    simp only [packEnv] at h
    split at h
    · rename_i g hav
      cases h1 : Nat.beq f g with
      | false => rw [h1] at h; cases h
      | true =>
        rw [h1] at h
        have := nbeq h1; subst this
        obtain ⟨k1, k2, k3⟩ := weak_env (es := es) (x := x) h
        exact ⟨weak_putF k1 hav, k2, ⟨k3.rd, k3.io, k3.xb⟩⟩
    · cases h
theorem pack_weak {S : Shp} {x : S.ty.val} (h : pack S st = some x) : Weak (unpack S x) (renS st S.env) := (weak_env h).1
theorem Sim.packed {S : Shp} {x : S.ty.val} (h : Sim w0 lim0 rb n st a w lim β) (hp : pack S st = some x) : ∃ β', Sim w0 lim0 rb n (unpack S x) a w lim β' := by
  obtain ⟨β', h'⟩ := h.ren S.env
  exact ⟨β', h'.weak (pack_weak hp)⟩

theorem map_inl {α β γ : Type} {o : Option α} {e : α ⊕ β} (h : o.map (Sum.inl (β := β)) = some e) : ∃ x, o = some x ∧ e = .inl x := by
  cases o with
  | none => cases h
  | some x => injection h with h; exact ⟨x, rfl, h.symm⟩
theorem map_inr {α β : Type} {o : Option β} {e : α ⊕ β} (h : o.map (Sum.inr (α := α)) = some e) : ∃ x, o = some x ∧ e = .inr x := by
  cases o with
  | none => cases h
  | some x => injection h with h; exact ⟨x, rfl, h.symm⟩
theorem obind_some {α β : Type} {o : Option α} {f : α → Option β} {r : β} (h : obind o f = some r) : ∃ x, o = some x ∧ f x = some r := by
  cases o with
  | none => cases h
  | some x => exact ⟨x, rfl, h⟩

theorem loop_sound {b : Code} {σ ρ : Type} {f : σ → Option (σ ⊕ ρ)} {U : σ → St} {Q : Exit → Act → World → Prop} {r : ρ}
    (hb : ∀ s e, f s = some e → ∀ (k : σ → Prop) a w lim β, Sim w0 lim0 rb n (U s) a w lim β → (∀ s', e = .inl s' → k s') → (∀ r', e = .inr r' → r' = r) →
      b.wp P (Exit.then (fun a' w' => ∃ s' lim' β', k s' ∧ Sim w0 lim0 rb n (U s') a' w' lim' β') Q) a w) {fuel : Nat} {s0 : σ} (hi : iter fuel f s0 = some r)
    (h : Sim w0 lim0 rb n (U s0) a w lim β) : (Code.loop b).wp P Q a w := by
  refine wp_loop_ghost (fun k a w => ∃ s lim β, iter k f s = some r ∧ Sim w0 lim0 rb n (U s) a w lim β) fuel ⟨s0, lim, β, hi, h⟩ ?_
  intro k a w ⟨s, lim, β, hk, hs⟩
  cases k with
  | zero => cases hk
  | succ k =>
    simp only [iter] at hk
    cases hf : f s with
    | none => rw [hf] at hk; cases hk
    | some e =>
      rw [hf] at hk
      refine Code.wp_mono ?_ (hb s e hf (fun s' => iter k f s' = some r) a w lim β hs (fun s' he => ?_) (fun r' he => ?_))
      · intro x a' w' hx
        cases x <;> try exact hx
        obtain ⟨s', lim', β', h1, h2⟩ := hx
        exact ⟨k, Nat.lt_succ_self k, s', lim', β', h1, h2⟩
      · subst he; exact hk
      · subst he; injection hk

theorem cnd_cond {α : Type} (k b : Bool) (x y : α) : cnd k (cnd b x y) (cndS b x y) = cond b x y := by cases k <;> cases b <;> rfl
theorem ERep_kn {st : St} {f : Tmp → Bool} {w : World} {lim : Lim} {β : Mp} {rb : Option Nat} {av : AV} {v : Value} (h : ERep st w lim β rb av v) : ERep { st with kn := f } w lim β rb av v := by cases av <;> exact h
theorem Sim.alike {st3 st' : St} (h : Sim w0 lim0 rb n st' a w lim β) (hA : Alike st3 st') : Sim w0 lim0 rb n st3 a w lim β := by
  obtain ⟨f, rfl⟩ := hA
  exact ⟨h.size, h.defers, h.grow, h.limOld, fun t => ERep_kn (h.env t), h.box, h.inj, fun l hl => (by cases l <;> exact h.own _ hl), fun l g hl hg => (by cases l <;> exact h.ownb _ g hl hg), fun l l' g h1 h2 h3 h4 => (by cases l <;> cases l' <;> exact h.sep _ _ g h1 h2 h3 h4), fun t l h1 h2 => (by cases l <;> exact h.tag t _ h1 h2), h.rd, h.xs.keep rfl rfl (fun _ _ _ => ⟨rfl, rfl⟩) (fun _ _ _ _ => rfl) (fun _ _ => ⟨rfl, rfl⟩) (fun b d hb => h.xs.offb hb) (fun l g hl hg => by cases l <;> exact h.xs.off (m := _) hl hg)⟩
theorem ERep_mk {st : St} {f : Tmp → Bool} {w : World} {lim : Lim} {β : Mp} {rb : Option Nat} {av : AV} {v : Value} (h : ERep st w lim β rb av v) : ERep { st with mkt := f } w lim β rb av v := by cases av <;> exact h
theorem Sim.marks (h : Sim w0 lim0 rb n st a w lim β) (f : Tmp → Bool) : Sim w0 lim0 rb n { st with mkt := f } a w lim β :=
  ⟨h.size, h.defers, h.grow, h.limOld, fun t => ERep_mk (h.env t), h.box, h.inj, fun l hl => (by cases l <;> exact h.own _ hl), fun l g hl hg => (by cases l <;> exact h.ownb _ g hl hg), fun l l' g h1 h2 h3 h4 => (by cases l <;> cases l' <;> exact h.sep _ _ g h1 h2 h3 h4), fun t l h1 h2 => (by cases l <;> exact h.tag t _ h1 h2), h.rd,
    h.xs.keep rfl rfl (fun _ _ _ => ⟨rfl, rfl⟩) (fun _ _ _ _ => rfl) (fun _ _ => ⟨rfl, rfl⟩) (fun b d hb => h.xs.offb hb) (fun l g hl hg => by cases l <;> exact h.xs.off (m := _) hl hg)⟩
def EvOk (P : Program) (tab : Tab) (G : Gam) (w0 : Base) (lim0 : Lim) (rb : Option Nat) (n : Nat) (ann : Ann) (fuel m : Nat) (c : Code) : Prop :=
    ∀ (R : Type) (st : St) (kn kr : St → Option R) (ke : Nat → St → Option R) (r : R), dstsOk m c = true → evalK tab G ann fuel c R st kn kr ke = some r →
    ∀ (Q : Exit → Act → World → Prop) a w lim β, Sim w0 lim0 rb n st a w lim β → (∀ st', kn st' = some r → ∀ a' w' lim' β', Sim w0 lim0 rb n st' a' w' lim' β' → Q .normal a' w') →
    (∀ st', kr st' = some r → ∀ a' w' lim' β', Sim w0 lim0 rb n st' a' w' lim' β' → Q .ret a' w') → (∀ i st', ke i st' = some r → ∀ a' w' lim' β', Sim w0 lim0 rb n st' a' w' lim' β' → Q (.exit i) a' w') → c.wp P Q a w

theorem eval_sound (hT : TabOk P tab) (hG : GamOk P G) (hm : P.follows .mixedOrders = true) (hrb : ∀ k, some k = rb → k < w0.heap.size) {ann : Ann} {fuel m : Nat} (hmn : m ≤ n) (c : Code) : EvOk P tab G w0 lim0 rb n ann fuel m c := by
  have both : EvOk P tab G w0 lim0 rb n ann fuel m c ∧ ∀ b, c = .loop b → EvOk P tab G w0 lim0 rb n ann fuel m b := by
    induction c with
    | skip =>
      refine ⟨?_, fun b hb => by cases hb⟩
      intro R st kn kr ke r hd he Q a w lim β h hn hr hx
      unfold evalK at he
      exact wp_skip (hn st he a w lim β h)
    | region id ops draw =>
      refine ⟨?_, fun b hb => by cases hb⟩
      intro R st kn kr ke r hd he Q a w lim β h hn hr hx
      unfold evalK at he
      have h := h.marks ann.mkt
      simp only [] at he
      have hd' : ∀ o ∈ ops.toList, ∀ d, o.dst = some d → d < n := fun o ho d hod => Nat.lt_of_lt_of_le (opsDst_mem (m := m) hd o ho d hod) hmn
      cases draw with
      | true =>
        obtain ⟨st', fs, st3, h1, hal, h2⟩ := drawK_runT (Alike.refl { st with mkt := ann.mkt }) (by exact he)
        rw [List.nil_append] at h2
        cases hE : edgesOk ops.toList 0 with
        | false => rw [hE] at h2; cases h2
        | true =>
          cases hP : pairsOk (masks ops.toList []) [] fs 0 with
          | false => rw [hE, hP] at h2; cases h2
          | true =>
            rw [hE, hP] at h2
            exact draw_sound hT hG hm hrb hd' h1 hE hP h (fun a' w' lim' β' hs => hn st3 h2 a' w' lim' β' (hs.alike hal))
      | false =>
        obtain ⟨st', fs, st3, h1, hal, h2⟩ := opsK_runT (Alike.refl { st with mkt := ann.mkt }) (by exact he)
        exact wp_region_list (run_sound hT hG hrb h1 hd' h (fun a' w' lim' β' hs => hn st3 h2 a' w' lim' β' (hs.alike hal)))
    | seq x y ihx ihy =>
      refine ⟨?_, fun b hb => by cases hb⟩
      intro R st kn kr ke r hd he Q a w lim β h hn hr hx
      unfold evalK at he
      have hd1 : dstsOk m x = true ∧ dstsOk m y = true := by
        simp only [dstsOk] at hd
        cases hq : dstsOk m x with
        | false => rw [hq] at hd; cases hd
        | true => rw [hq] at hd; exact ⟨rfl, hd⟩
      split at he
      · refine wp_seq (ihx.1 R st _ kr ke r hd1.1 he _ a w lim β h (fun st' hk a' w' lim' β' hs => ?_) hr hx)
        exact ihy.1 R st' kn kr ke r hd1.2 hk Q a' w' lim' β' hs hn hr hx
      · rename_i S hcut
        obtain ⟨s, h1, h2⟩ := obind_some he
        refine wp_seq (ihx.1 S.ty.val st _ _ _ s hd1.1 h1 _ a w lim β h (fun st' hk a' w' lim' β' hs => ?_) (fun st' hk => by cases hk) (fun i st' hk => by cases hk))
        obtain ⟨β2, hs⟩ := hs.packed hk
        exact ihy.1 R (unpack S s) kn kr ke r hd1.2 h2 Q a' w' lim' β2 hs hn hr hx
      · rename_i S hcut
        obtain ⟨e, h1, h2⟩ := obind_some he
        refine wp_seq (ihx.1 (S.ty.val ⊕ R) st _ _ _ e hd1.1 h1 _ a w lim β h (fun st' hk a' w' lim' β' hs => ?_) (fun st' hk a' w' lim' β' hs => ?_) (fun i st' hk a' w' lim' β' hs => ?_))
        · obtain ⟨s, k1, k2⟩ := map_inl (β := R) (γ := R) hk
          subst k2
          obtain ⟨β2, hs⟩ := hs.packed k1
          exact ihy.1 R (unpack S s) kn kr ke r hd1.2 h2 Q a' w' lim' β2 hs hn hr hx
        · obtain ⟨s, k1, k2⟩ := map_inr hk
          subst k2
          injection h2 with h2; subst h2
          exact hr st' k1 a' w' lim' β' hs
        · obtain ⟨s, k1, k2⟩ := map_inr hk
          subst k2
          injection h2 with h2; subst h2
          exact hx i st' k1 a' w' lim' β' hs
    | cond c x y ihx ihy =>
      refine ⟨?_, fun b hb => by cases hb⟩
      intro R st kn kr ke r hd he Q a w lim β h hn hr hx
      unfold evalK at he
      have hd1 : dstsOk m x = true ∧ dstsOk m y = true := by
        simp only [dstsOk] at hd
        cases hq : dstsOk m x with
        | false => rw [hq] at hd; cases hd
        | true => rw [hq] at hd; exact ⟨rfl, hd⟩
      split at he
      · rename_i b hav
        have hc := h.ent c
        rw [hav] at hc
        have hc := bool_rep hc
        have b' : Bool := b
        have he : cond (α := Option R) b (evalK tab G ann fuel x R st kn kr ke) (evalK tab G ann fuel y R st kn kr ke) = some r := (cnd_cond (st.knX c) (show Bool from b) _ _).symm.trans he
        revert hc he
        generalize (show Bool from b) = t
        intro hc he
        refine wp_cond hc ?_
        cases t with
        | true => exact ihx.1 R st kn kr ke r hd1.1 he Q a w lim β h hn hr hx
        | false => exact ihy.1 R st kn kr ke r hd1.2 he Q a w lim β h hn hr hx
      · cases he
    | block id c ihc =>
      refine ⟨?_, fun b hb => by cases hb⟩
      intro R st kn kr ke r hd he Q a w lim β h hn hr hx
      by_cases hl : ∃ b, c = .loop b
      · obtain ⟨b, rfl⟩ := hl
        have ihb := ihc.2 b rfl
        unfold evalK at he
        have hdb : dstsOk m b = true := hd
        split at he
        · rename_i S T hann
          split at he
          · cases he
          · rename_i s0 hp
            obtain ⟨t, h1, h2⟩ := obind_some he
            obtain ⟨βp, hsp⟩ := h.packed hp
            refine wp_block (loop_sound (U := unpack S) (r := t) ?_ h1 hsp)
            intro s e hf k a w lim β hs hk hrt
            refine ihb _ (unpack S s) _ _ _ e hdb hf _ a w lim β hs (fun st' hk' a' w' lim' β' hs' => ?_) (fun st' hk' => by cases hk') (fun i st' hk' a' w' lim' β' hs' => ?_)
            · obtain ⟨s', k1, k2⟩ := map_inl (β := T.ty.val) (γ := R) hk'
              obtain ⟨β2, hs2⟩ := hs'.packed k1
              exact ⟨s', lim', β2, hk s' k2, hs2⟩
            · cases hq : Nat.beq i id with
              | false => rw [hq] at hk'; cases hk'
              | true =>
                rw [hq] at hk'
                obtain ⟨t', k1, k2⟩ := map_inr hk'
                have := hrt t' k2; subst this
                show (if i = id then Q .normal a' w' else Q (.exit i) a' w')
                rw [if_pos (nbeq hq)]
                obtain ⟨β2, hs2⟩ := hs'.packed k1
                exact hn _ h2 a' w' lim' β2 hs2
        · rename_i S T hann
          split at he
          · cases he
          · rename_i s0 hp
            obtain ⟨t, h1, h2⟩ := obind_some he
            obtain ⟨βp, hsp⟩ := h.packed hp
            refine wp_block (loop_sound (U := unpack S) (r := t) ?_ h1 hsp)
            intro s e hf k a w lim β hs hk hrt
            refine ihb _ (unpack S s) _ _ _ e hdb hf _ a w lim β hs (fun st' hk' a' w' lim' β' hs' => ?_) (fun st' hk' a' w' lim' β' hs' => ?_) (fun i st' hk' a' w' lim' β' hs' => ?_)
            · obtain ⟨s', k1, k2⟩ := map_inl (β := T.ty.val ⊕ R) (γ := R) hk'
              obtain ⟨β2, hs2⟩ := hs'.packed k1
              exact ⟨s', lim', β2, hk s' k2, hs2⟩
            · have hk' : (kr st').map (fun r => (Sum.inr (Sum.inr r) : S.ty.val ⊕ (T.ty.val ⊕ R))) = some e := hk'
              cases hq : kr st' with
              | none => rw [hq] at hk'; cases hk'
              | some r' =>
                rw [hq] at hk'
                injection hk' with hk'
                have := hrt _ hk'.symm
                subst this
                injection h2 with h2; subst h2
                exact hr st' hq a' w' lim' β' hs'
            · show (if i = id then Q .normal a' w' else Q (.exit i) a' w')
              cases hq : Nat.beq i id with
              | false =>
                have hne : ¬ i = id := by intro e; subst e; rw [Nat.beq_refl] at hq; cases hq
                rw [if_neg hne]
                have hk' : (ke i st').map (fun r => (Sum.inr (Sum.inr r) : S.ty.val ⊕ (T.ty.val ⊕ R))) = some e := by rw [hq] at hk'; exact hk'
                cases hq2 : ke i st' with
                | none => rw [hq2] at hk'; cases hk'
                | some r' =>
                  rw [hq2] at hk'
                  injection hk' with hk'
                  have := hrt _ hk'.symm
                  subst this
                  injection h2 with h2; subst h2
                  exact hx i st' hq2 a' w' lim' β' hs'
              | true =>
                rw [if_pos (nbeq hq)]
                have hk' : (pack T st').map (fun t => (Sum.inr (Sum.inl t) : S.ty.val ⊕ (T.ty.val ⊕ R))) = some e := by rw [hq] at hk'; exact hk'
                cases hq2 : pack T st' with
                | none => rw [hq2] at hk'; cases hk'
                | some t' =>
                  rw [hq2] at hk'
                  injection hk' with hk'
                  have := hrt _ hk'.symm
                  subst this
                  obtain ⟨β2, hs2⟩ := hs'.packed hq2
                  exact hn _ h2 a' w' lim' β2 hs2
        · cases he
      · have he : evalK tab G ann fuel c R st kn kr (fun i st' => cnd (Nat.beq i id) (kn st') (ke i st')) = some r := by
          cases c <;> first | exact he | (exfalso; exact hl ⟨_, rfl⟩)
        refine wp_block (ihc.1 R st kn kr _ r hd he _ a w lim β h hn hr (fun i st' hk a' w' lim' β' hs => ?_))
        show (if i = id then Q .normal a' w' else Q (.exit i) a' w')
        cases hq : Nat.beq i id with
        | true =>
          rw [hq] at hk
          rw [if_pos (nbeq hq)]
          exact hn st' hk a' w' lim' β' hs
        | false =>
          have hne : ¬ i = id := by intro e; subst e; rw [Nat.beq_refl] at hq; cases hq
          rw [hq] at hk
          rw [if_neg hne]
          exact hx i st' hk a' w' lim' β' hs
    | exit id =>
      refine ⟨?_, fun b hb => by cases hb⟩
      intro R st kn kr ke r hd he Q a w lim β h hn hr hx
      unfold evalK at he
      exact wp_exit (hx id st he a w lim β h)
    | ret =>
      refine ⟨?_, fun b hb => by cases hb⟩
      intro R st kn kr ke r hd he Q a w lim β h hn hr hx
      unfold evalK at he
      exact wp_ret (hr st he a w lim β h)
    | loop c ihc =>
      refine ⟨?_, fun b hb => by injection hb with hb; subst hb; exact ihc.1⟩
      intro R st kn kr ke r hd he Q a w lim β h hn hr hx
      unfold evalK at he; cases he
    | goto l =>
      refine ⟨?_, fun b hb => by cases hb⟩
      intro R st kn kr ke r hd he Q a w lim β h hn hr hx
      unfold evalK at he; cases he
    | label l =>
      refine ⟨?_, fun b hb => by cases hb⟩
      intro R st kn kr ke r hd he
      unfold evalK at he; cases he
    | refuse l =>
      refine ⟨?_, fun b hb => by cases hb⟩
      intro R st kn kr ke r hd he
      unfold evalK at he; cases he
    | scope c ihc =>
      refine ⟨?_, fun b hb => by cases hb⟩
      intro R st kn kr ke r hd he
      unfold evalK at he; cases he
    | rangeFunc f ps x y ihx ihy =>
      refine ⟨?_, fun b hb => by cases hb⟩
      intro R st kn kr ke r hd he
      unfold evalK at he; cases he
  exact both.1
end
end Go.Den

namespace Go.Den
section
variable {P : Program} {tab : Tab} {G : Gam} {w0 : Base} {lim0 : Lim} {rb : Option Nat} {n : Nat}
variable {st st' : St} {a : Act} {w : World} {lim : Lim} {β : Mp}

theorem XRep.blk : ∀ {t : Ty} {x : t.val} {cs : List Value} {B : Nat → Prop} {p : List Nat} {e : Ty} {v : Value} {g : Nat}, XRep w t x cs B → typeAt t p = some (.slice e) → cs[offs t p]? = some v → blockOf v = some g → B g := by
  intro t
  induction t with
  | slice u _ =>
    intro x cs B p e v g h ht hv hg
    cases p with
    | cons i p => cases (typeAt_slice_slice ht).1
    | nil =>
      rcases h with ⟨h1, _, _⟩ | ⟨g', c, arr, e', fr, Bs, h1, _, _, _, _, h5, _⟩
      · rw [h1] at hv; simp [offs] at hv; subst hv; cases hg
      · rw [h1] at hv; simp [offs] at hv; subst hv; injection hg with hg; exact (h5 g).2 (.inl hg.symm)
  | prod p' q' ihp ihq =>
    intro x cs B p e v g h ht hv hg
    obtain ⟨c1, c2, B1, B2, rfl, h2, h3, h4, h5⟩ := h
    have l1 := h4.length
    cases p with
    | nil => simp [typeAt] at ht
    | cons i p =>
      cases i with
      | zero =>
        simp only [typeAt] at ht
        simp only [offs] at hv
        have hlt := typeAt_lt ht
        have hs : (Ty.slice e).size = 1 := rfl
        rw [List.getElem?_append_left (by omega)] at hv
        exact (h2 g).2 (.inl (ihp h4 ht hv hg))
      | succ i =>
        simp only [typeAt] at ht
        simp only [offs] at hv
        rw [List.getElem?_append_right (by omega), l1, show p'.size + offs q' (i :: p) - p'.size = offs q' (i :: p) by omega] at hv
        exact (h2 g).2 (.inr (ihq h5 ht hv hg))
  | int k => intro x cs B p e v g h ht; cases p <;> simp [typeAt] at ht
  | bool => intro x cs B p e v g h ht; cases p <;> simp [typeAt] at ht
  | str => intro x cs B p e v g h ht; cases p <;> simp [typeAt] at ht
  | unit => intro x cs B p e v g h ht; cases p <;> simp [typeAt] at ht
theorem XRep.inj : ∀ {t : Ty} {x : t.val} {cs : List Value} {B : Nat → Prop} {p q : List Nat} {e e' : Ty} {u v : Value} {g : Nat}, XRep w t x cs B → typeAt t p = some (.slice e) → typeAt t q = some (.slice e') →
    cs[offs t p]? = some u → cs[offs t q]? = some v → blockOf u = some g → blockOf v = some g → p = q := by
  intro t
  induction t with
  | slice d _ =>
    intro x cs B p q e e' u v g h hp hq _ _ _ _
    rw [(typeAt_slice_slice hp).1, (typeAt_slice_slice hq).1]
  | prod p' q' ihp ihq =>
    intro x cs B p q e e' u v g h hp hq hu hv hgu hgv
    obtain ⟨c1, c2, B1, B2, rfl, h2, h3, h4, h5⟩ := h
    have l1 := h4.length
    have left : ∀ {r : List Nat} {f : Ty} {z : Value}, typeAt (.prod p' q') (0 :: r) = some (.slice f) → (c1 ++ c2)[offs (.prod p' q') (0 :: r)]? = some z → typeAt p' r = some (.slice f) ∧ c1[offs p' r]? = some z := by
      intro r f z ht hz
      simp only [typeAt] at ht
      simp only [offs] at hz
      have hlt := typeAt_lt ht
      have hs : (Ty.slice f).size = 1 := rfl
      rw [List.getElem?_append_left (by omega)] at hz
      exact ⟨ht, hz⟩
    have right : ∀ {i : Nat} {r : List Nat} {f : Ty} {z : Value}, typeAt (.prod p' q') ((i + 1) :: r) = some (.slice f) → (c1 ++ c2)[offs (.prod p' q') ((i + 1) :: r)]? = some z → typeAt q' (i :: r) = some (.slice f) ∧ c2[offs q' (i :: r)]? = some z := by
      intro i r f z ht hz
      simp only [typeAt] at ht
      simp only [offs] at hz
      rw [List.getElem?_append_right (by omega), l1, show p'.size + offs q' (i :: r) - p'.size = offs q' (i :: r) by omega] at hz
      exact ⟨ht, hz⟩
    cases p with
    | nil => simp [typeAt] at hp
    | cons i p =>
      cases q with
      | nil => simp [typeAt] at hq
      | cons j q =>
        cases i with
        | zero =>
          obtain ⟨a1, a2⟩ := left hp hu
          cases j with
          | zero =>
            obtain ⟨b1, b2⟩ := left hq hv
            rw [ihp h4 a1 b1 a2 b2 hgu hgv]
          | succ j =>
            obtain ⟨b1, b2⟩ := right hq hv
            exact absurd (h5.blk b1 b2 hgv) (h3 g (h4.blk a1 a2 hgu))
        | succ i =>
          obtain ⟨a1, a2⟩ := right hp hu
          cases j with
          | zero =>
            obtain ⟨b1, b2⟩ := left hq hv
            exact absurd (h5.blk a1 a2 hgu) (h3 g (h4.blk b1 b2 hgv))
          | succ j =>
            obtain ⟨b1, b2⟩ := right hq hv
            have := ihq h5 a1 b1 a2 b2 hgu hgv
            injection this with e1 e2
            rw [e1, e2]
  | int k => intro x cs B p q e e' u v g h hp; cases p <;> simp [typeAt] at hp
  | bool => intro x cs B p q e e' u v g h hp; cases p <;> simp [typeAt] at hp
  | str => intro x cs B p q e e' u v g h hp; cases p <;> simp [typeAt] at hp
  | unit => intro x cs B p q e e' u v g h hp; cases p <;> simp [typeAt] at hp
def SeenIn (w : World) : (t : Ty) → List Value → Nat → Nat → Prop
  | .prod a b, cs, g, k => SeenIn w a (cs.take a.size) g k ∨ SeenIn w b (cs.drop a.size) g k
  | .slice t, cs, g, k => ∃ g' m c arr el fr, cs = [.slice (some ⟨g', 0, none⟩) m c] ∧ w.heap[g']? = some (.cells arr el fr) ∧ ((g = g' ∧ k = m * t.size) ∨ ∃ i, i < m ∧ SeenIn w t ((arr.toList.drop (i * t.size)).take t.size) g k)
  | _, _, _, _ => False
theorem seg {ds : List Value} {arr : Array Value} {i s : Nat} (hl : ds.length = s) (h : ∀ j v, ds[j]? = some v → arr[i * s + j]? = some v) : (arr.toList.drop (i * s)).take s = ds := by
  apply List.ext_getElem?
  intro j
  by_cases hj : j < s
  · rw [List.getElem?_take_of_lt hj, List.getElem?_drop, Array.getElem?_toList, h j _ (List.getElem?_eq_getElem (by omega)), List.getElem?_eq_getElem (by omega)]
  · rw [List.getElem?_eq_none (by rw [List.length_take]; omega), List.getElem?_eq_none (by omega)]
theorem XRep.seen_blk : ∀ {t : Ty} {x : t.val} {cs : List Value} {B : Nat → Prop} {g k : Nat}, XRep w t x cs B → SeenIn w t cs g k → B g
  | .int _, _, _, _, _, _, _, hs => hs.elim
  | .bool, _, _, _, _, _, _, hs => hs.elim
  | .str, _, _, _, _, _, _, hs => hs.elim
  | .unit, _, _, _, _, _, _, hs => hs.elim
  | .prod a b, _, _, _, _, _, h, hs => by
    obtain ⟨c1, c2, B1, B2, rfl, h2, h3, h4, h5⟩ := h
    have l1 := h4.length
    rcases hs with hs | hs
    · rw [← l1, List.take_left] at hs
      exact (h2 _).2 (.inl (XRep.seen_blk h4 hs))
    · rw [← l1, List.drop_left] at hs
      exact (h2 _).2 (.inr (XRep.seen_blk h5 hs))
  | .slice t, xs, _, _, _, _, h, hs => by
    obtain ⟨g', m, c', arr', el', fr', q1, q2, q3⟩ := hs
    rcases h with ⟨h1, _, _⟩ | ⟨g0, c, arr, e, fr, Bs, h1, h2, h3, h4, hf, h5, h6, h7, h8⟩
    · rw [h1] at q1; cases q1
    · rw [h1] at q1; injection q1 with q1 _; injection q1 with e1 e2 e3; injection e1 with e1; injection e1 with e1 _
      subst e1
      rw [h4] at q2; injection q2 with q2; injection q2 with e4 _ _; subst e4
      rcases q3 with ⟨q3, _⟩ | ⟨i, hi, q3⟩
      · exact (h5 _).2 (.inl q3)
      · obtain ⟨ds, k1, k2⟩ := h8 i _ (List.getElem?_eq_getElem (by show i < List.length (α := t.val) xs; omega))
        rw [seg k1.length k2] at q3
        exact (h5 _).2 (.inr ⟨i, XRep.seen_blk k1 q3⟩)
theorem XRep.seen_inj : ∀ {t : Ty} {x : t.val} {cs : List Value} {B : Nat → Prop} {g k k' : Nat}, XRep w t x cs B → SeenIn w t cs g k → SeenIn w t cs g k' → k = k'
  | .int _, _, _, _, _, _, _, _, hs, _ => hs.elim
  | .bool, _, _, _, _, _, _, _, hs, _ => hs.elim
  | .str, _, _, _, _, _, _, _, hs, _ => hs.elim
  | .unit, _, _, _, _, _, _, _, hs, _ => hs.elim
  | .prod a b, _, _, _, _, _, _, h, hs, hs' => by
    obtain ⟨c1, c2, B1, B2, rfl, h2, h3, h4, h5⟩ := h
    have l1 := h4.length
    simp only [SeenIn] at hs hs'
    rw [← l1, List.take_left, List.drop_left] at hs hs'
    rcases hs with hs | hs <;> rcases hs' with hs' | hs'
    · exact XRep.seen_inj h4 hs hs'
    · exact absurd (XRep.seen_blk h5 hs') (h3 _ (XRep.seen_blk h4 hs))
    · exact absurd (XRep.seen_blk h5 hs) (h3 _ (XRep.seen_blk h4 hs'))
    · exact XRep.seen_inj h5 hs hs'
  | .slice t, xs, _, _, _, _, _, h, hs, hs' => by
    obtain ⟨g', m, c', arr', el', fr', q1, q2, q3⟩ := hs
    obtain ⟨g2, m2, c2, arr2, el2, fr2, p1, p2, p3⟩ := hs'
    rcases h with ⟨h1, _, _⟩ | ⟨g0, c, arr, e, fr, Bs, h1, h2, h3, h4, hf, h5, h6, h7, h8⟩
    · rw [h1] at q1; cases q1
    · rw [h1] at q1; injection q1 with q1 _; injection q1 with e1 e2 e3; injection e1 with e1; injection e1 with e1 _
      rw [h1] at p1; injection p1 with p1 _; injection p1 with f1 f2 f3; injection f1 with f1; injection f1 with f1 _
      subst e1; subst f1
      rw [h4] at q2; injection q2 with q2; injection q2 with e4 _ _; subst e4
      rw [h4] at p2; injection p2 with p2; injection p2 with f4 _ _; subst f4
      rcases q3 with ⟨q3, q4⟩ | ⟨i, hi, q3⟩ <;> rcases p3 with ⟨p3, p4⟩ | ⟨i', hi', p3⟩
      · rw [q4, p4, ← e2, ← f2]
      · obtain ⟨ds, k1, k2⟩ := h8 i' _ (List.getElem?_eq_getElem (by show i' < List.length (α := t.val) xs; omega))
        rw [seg k1.length k2] at p3
        exact absurd q3 (h6 i' _ (XRep.seen_blk k1 p3)).2
      · obtain ⟨ds, k1, k2⟩ := h8 i _ (List.getElem?_eq_getElem (by show i < List.length (α := t.val) xs; omega))
        rw [seg k1.length k2] at q3
        exact absurd p3 (h6 i _ (XRep.seen_blk k1 q3)).2
      · obtain ⟨ds, k1, k2⟩ := h8 i _ (List.getElem?_eq_getElem (by show i < List.length (α := t.val) xs; omega))
        rw [seg k1.length k2] at q3
        obtain ⟨ds', k1', k2'⟩ := h8 i' _ (List.getElem?_eq_getElem (by show i' < List.length (α := t.val) xs; omega))
        rw [seg k1'.length k2'] at p3
        have := h7 i i' _ (XRep.seen_blk k1 q3) (XRep.seen_blk k1' p3)
        subst this
        have hd : ds' = ds := by rw [← seg k1.length k2, ← seg k1'.length k2']
        subst hd
        exact XRep.seen_inj k1 q3 p3
theorem XRep.crep2 : ∀ {t : Ty} {x : t.val} {cs : List Value} {B : Nat → Prop}, XRep w t x cs B → (∀ g k, SeenIn w t cs g k → lim g = some k) → CRep w lim t x cs
  | .int _, _, _, _, h, _ => h.1
  | .bool, _, _, _, h, _ => h.1
  | .str, _, _, _, h, _ => h.1
  | .unit, _, _, _, h, _ => h.1
  | .prod a b, _, _, _, h, hl => by
    obtain ⟨c1, c2, B1, B2, rfl, h2, _, h4, h5⟩ := h
    have l1 := h4.length
    exact ⟨c1, c2, rfl, XRep.crep2 h4 (fun g k hs => hl g k (.inl (by rw [← l1, List.take_left]; exact hs))), XRep.crep2 h5 (fun g k hs => hl g k (.inr (by rw [← l1, List.drop_left]; exact hs)))⟩
  | .slice t, xs, cs, B, h, hl => by
    rcases h with ⟨h1, h2, _⟩ | ⟨g, c, arr, e, fr, Bs, h1, h2, h3, h4, _, h5, h6, h7, h8⟩
    · exact ⟨none, 0, by rw [h1, h2], by omega, .inl (List.eq_nil_of_length_eq_zero h2)⟩
    · refine ⟨some ⟨g, 0, none⟩, c, h1, h2, .inr ⟨g, 0, rfl, (Array.getElem?_eq_some_iff.1 h4).1, (by
        intro m hm
        have := hl g (List.length (α := t.val) xs * t.size) ⟨g, _, c, arr, e, fr, h1, h4, .inl ⟨rfl, rfl⟩⟩
        rw [hm] at this; injection this with this; rw [this]; omega), fun i x hx => ?_⟩⟩
      obtain ⟨ds, k1, k2⟩ := h8 i x hx
      refine ⟨ds, XRep.crep2 k1 (fun g' k' hs => hl g' k' ⟨g, _, c, arr, e, fr, h1, h4, .inr ⟨i, (List.getElem?_eq_some_iff.1 hx).1, by rw [seg k1.length k2]; exact hs⟩⟩), fun j v hv => ?_⟩
      have := k2 j v hv
      simp only [World.cell?, h4]
      simpa using this
theorem XRep.seen_at : ∀ {t : Ty} {x : t.val} {cs : List Value} {B : Nat → Prop} {p : List Nat} {e : Ty} {g m c : Nat}, XRep w t x cs B → typeAt t p = some (.slice e) → cs[offs t p]? = some (.slice (some ⟨g, 0, none⟩) m c) → SeenIn w t cs g (m * e.size) := by
  intro t
  induction t with
  | slice u _ =>
    intro x cs B p e g m c h ht hv
    cases p with
    | cons i p => cases (typeAt_slice_slice ht).1
    | nil =>
      simp only [typeAt] at ht; injection ht with ht; injection ht with ht; subst ht
      rcases h with ⟨h1, _, _⟩ | ⟨g', c', arr, e', fr, Bs, h1, _, _, h4, _⟩
      · rw [h1] at hv; simp [offs] at hv
      · rw [h1] at hv; simp [offs] at hv
        obtain ⟨e1, e2, e3⟩ := hv
        subst e1
        exact ⟨g', _, c', arr, e', fr, h1, h4, .inl ⟨rfl, by rw [← e2]⟩⟩
  | prod p' q' ihp ihq =>
    intro x cs B p e g m c h ht hv
    obtain ⟨c1, c2, B1, B2, rfl, h2, h3, h4, h5⟩ := h
    have l1 := h4.length
    cases p with
    | nil => simp [typeAt] at ht
    | cons i p =>
      cases i with
      | zero =>
        simp only [typeAt] at ht
        simp only [offs] at hv
        have hlt := typeAt_lt ht
        have hs : (Ty.slice e).size = 1 := rfl
        rw [List.getElem?_append_left (by omega)] at hv
        exact .inl (by rw [← l1, List.take_left]; exact ihp h4 ht hv)
      | succ i =>
        simp only [typeAt] at ht
        simp only [offs] at hv
        rw [List.getElem?_append_right (by omega), l1, show p'.size + offs q' (i :: p) - p'.size = offs q' (i :: p) by omega] at hv
        exact .inr (by rw [← l1, List.drop_left]; exact ihq h5 ht hv)
  | int k => intro x cs B p e g m c h ht; cases p <;> simp [typeAt] at ht
  | bool => intro x cs B p e g m c h ht; cases p <;> simp [typeAt] at ht
  | str => intro x cs B p e g m c h ht; cases p <;> simp [typeAt] at ht
  | unit => intro x cs B p e g m c h ht; cases p <;> simp [typeAt] at ht
theorem XRep.tip : ∀ {t : Ty} {x : t.val} {cs : List Value} {B : Nat → Prop} {p : List Nat} {e : Ty}, XRep w t x cs B → typeAt t p = some (.slice e) → ∃ v, cs[offs t p]? = some v ∧
    (v = .slice none 0 0 ∨ ∃ g m c arr el fr, v = .slice (some ⟨g, 0, none⟩) m c ∧ w.heap[g]? = some (.cells arr el fr) ∧ (∀ o, o < arr.size → ¬ (fr.1 ≤ o ∧ o < fr.2)) ∧ m ≤ c ∧ c * e.size ≤ arr.size ∧ B g) := by
  intro t
  induction t with
  | slice u _ =>
    intro x cs B p e h ht
    cases p with
    | cons i p => cases (typeAt_slice_slice ht).1
    | nil =>
      simp only [typeAt] at ht; injection ht with ht; injection ht with ht; subst ht
      rcases h with ⟨h1, h2, _⟩ | ⟨g', c, arr, e', fr, Bs, h1, h2, h3, h4, hf, h5, _⟩
      · exact ⟨_, by rw [h1]; simp [offs], .inl rfl⟩
      · exact ⟨_, by rw [h1]; simp [offs], .inr ⟨g', _, c, arr, e', fr, rfl, h4, hf, h2, h3, (h5 g').2 (.inl rfl)⟩⟩
  | prod p' q' ihp ihq =>
    intro x cs B p e h ht
    obtain ⟨c1, c2, B1, B2, rfl, h2, h3, h4, h5⟩ := h
    have l1 := h4.length
    cases p with
    | nil => simp [typeAt] at ht
    | cons i p =>
      cases i with
      | zero =>
        simp only [typeAt] at ht
        obtain ⟨v, k1, k2⟩ := ihp h4 ht
        refine ⟨v, by simp only [offs]; rw [List.getElem?_append_left (List.getElem?_eq_some_iff.1 k1).1]; exact k1, ?_⟩
        rcases k2 with k2 | ⟨g, m, c, arr, el, fr, k2, k3, k4, k5, k6, k7⟩
        · exact .inl k2
        · exact .inr ⟨g, m, c, arr, el, fr, k2, k3, k4, k5, k6, (h2 g).2 (.inl k7)⟩
      | succ i =>
        simp only [typeAt] at ht
        obtain ⟨v, k1, k2⟩ := ihq h5 ht
        refine ⟨v, by simp only [offs]; rw [List.getElem?_append_right (by omega), l1, show p'.size + offs q' (i :: p) - p'.size = offs q' (i :: p) by omega]; exact k1, ?_⟩
        rcases k2 with k2 | ⟨g, m, c, arr, el, fr, k2, k3, k4, k5, k6, k7⟩
        · exact .inl k2
        · exact .inr ⟨g, m, c, arr, el, fr, k2, k3, k4, k5, k6, (h2 g).2 (.inr k7)⟩
  | int k => intro x cs B p e h ht; cases p <;> simp [typeAt] at ht
  | bool => intro x cs B p e h ht; cases p <;> simp [typeAt] at ht
  | str => intro x cs B p e h ht; cases p <;> simp [typeAt] at ht
  | unit => intro x cs B p e h ht; cases p <;> simp [typeAt] at ht

theorem getF_paths : ∀ {t : Ty} {x : t.val} {i : Nat} {d : Dat} {p : List Nat}, getF t x i = some d → p ∈ slicePaths d.1 → (i :: p) ∈ slicePaths t := by
  intro t
  induction t with
  | prod a b _ ihb =>
    intro x i d p hf hp
    cases i with
    | zero =>
      simp only [getF] at hf; injection hf with hf; subst hf
      simp only [slicePaths]
      exact List.mem_append_left _ (List.mem_map.2 ⟨p, hp, rfl⟩)
    | succ i =>
      simp only [getF] at hf
      have := ihb hf hp
      cases b with
      | prod u v => rw [slicePaths]; exact List.mem_append_right _ (List.mem_map.2 ⟨i :: p, this, rfl⟩)
      | _ => cases hf
  | _ => intro x i d p hf; cases hf
theorem getP_paths : ∀ {q : List Nat} {t : Ty} {x : t.val} {y : Dat} {p : List Nat}, getP t x q = some y → p ∈ slicePaths y.1 → (q ++ p) ∈ slicePaths t
  | [], t, x, y, p, h, hp => by simp only [getP] at h; injection h with h; subst h; exact hp
  | i :: q, t, x, y, p, h, hp => by
    simp only [getP] at h
    cases hf : getF t x i with
    | none => rw [hf] at h; cases h
    | some d =>
      rw [hf] at h
      exact getF_paths hf (getP_paths h hp)
theorem XRep.el : ∀ {u : Ty} {xs : (Ty.slice u).val} {cs : List Value} {B : Nat → Prop} {v : Value}, XRep w (.slice u) xs cs B → cs[0]? = some v → ∀ {i : Nat} {q : List Nat} {e' : Ty} {z : Value}, typeAt u q = some (.slice e') → elemAt w u v i q = some z →
    ∃ (x : u.val) (ds : List Value) (Bi : Nat → Prop), XRep w u x ds Bi ∧ ds[offs u q]? = some z ∧ (∀ g, Bi g → B g ∧ blockOf v ≠ some g) ∧ (∀ g k, SeenIn w u ds g k → SeenIn w (.slice u) cs g k) ∧
      ∀ {j : Nat} {r : List Nat} {e'' : Ty} {z' : Value}, typeAt u r = some (.slice e'') → elemAt w u v j r = some z' → ∀ g, Bi g → blockOf z' = some g → i = j ∧ ds[offs u r]? = some z' := by
  intro u xs cs B v h hv i q e' z hq hz
  rcases h with ⟨h1, _, _⟩ | ⟨g, c, arr, el, fr, Bs, h1, h2, h3, h4, hf, h5, h6, h7, h8⟩
  · rw [h1] at hv; simp at hv; subst hv; cases hz
  · rw [h1] at hv; simp at hv; subst hv
    have get : ∀ {j : Nat} {r : List Nat} {e'' : Ty} {z' : Value}, typeAt u r = some (.slice e'') → elemAt w u (.slice (some ⟨g, 0, none⟩) (List.length (α := u.val) xs) c) j r = some z' → ∃ (x : u.val) (ds : List Value), XRep w u x ds (Bs j) ∧ ds[offs u r]? = some z' ∧ j < List.length (α := u.val) xs ∧ (arr.toList.drop (j * u.size)).take u.size = ds := by
      intro j r e'' z' hr hz'
      have hlt := typeAt_lt hr
      have hs1 : (Ty.slice e'').size = 1 := rfl
      simp only [elemAt] at hz'
      split at hz'
      · rename_i hj
        obtain ⟨ds, k1, k2⟩ := h8 j _ (List.getElem?_eq_getElem (by show j < List.length (α := u.val) xs; exact hj))
        have hdl := k1.length
        have k3 := k2 (offs u r) _ (List.getElem?_eq_getElem (by omega))
        refine ⟨_, ds, k1, ?_, hj, seg k1.length k2⟩
        simp only [World.cell?, h4, Option.isSome_none, Bool.false_eq_true, if_false, Nat.zero_add] at hz'
        rw [hz'] at k3; injection k3 with k3
        rw [List.getElem?_eq_getElem (by omega), ← k3]
      · cases hz'
    obtain ⟨x, ds, a1, a2, a3, a4⟩ := get hq hz
    refine ⟨x, ds, Bs i, a1, a2, fun g' hg' => ⟨(h5 g').2 (.inr ⟨i, hg'⟩), fun hb => (h6 i g' hg').2 (by injection hb with hb; exact hb.symm)⟩, fun g' k hs => ⟨g, _, c, arr, el, fr, h1, h4, .inr ⟨i, a3, by rw [a4]; exact hs⟩⟩, fun {j r e'' z'} hr hz' g' hg' hb => ?_⟩
    obtain ⟨x', ds', b1, b2, b3, b4⟩ := get hr hz'
    have := h7 i j g' hg' (b1.blk hr b2 hb)
    subst this
    rw [a4] at b4; subst b4
    exact ⟨rfl, b2⟩
theorem XRep.blkT : ∀ {t : Ty} {x : t.val} {cs : List Value} {B : Nat → Prop} {p : List Nat} {T : Ty} {v : Value} {g : Nat}, XRep w t x cs B → typeAt t p = some T → cs[offs t p]? = some v → Blk w T v g → B g := by
  intro t
  induction t with
  | slice u _ =>
    intro x cs B p T v g h ht hv hg
    rcases typeAt_slice ht with ⟨rfl, rfl⟩ | ⟨rfl, rfl⟩
    · exact h.blk (p := []) rfl hv hg
    · have hv : cs[0]? = some v := hv
      obtain ⟨i, q, e', z, a1, a2, a3⟩ := hg
      obtain ⟨y, ds, Bi, b1, b2, b3, _, _⟩ := h.el hv a1 a2
      exact (b3 g (b1.blk a1 b2 a3)).1
  | prod p' q' ihp ihq =>
    intro x cs B p T v g h ht hv hg
    obtain ⟨c1, c2, B1, B2, rfl, h2, h3, h4, h5⟩ := h
    have l1 := h4.length
    cases p with
    | nil =>
      simp only [typeAt] at ht; injection ht with ht; subst ht
      have ho := hg.oty
      cases p' with
      | slice e =>
        cases q' with
        | unit =>
          have hs : (Ty.slice e).size = 1 := rfl
          rw [show offs (.prod (.slice e) .unit) [] = 0 from rfl, List.getElem?_append_left (by omega)] at hv
          exact (h2 g).2 (.inl (ihp (p := [0]) h4 rfl hv hg))
        | _ => cases ho
      | _ => cases ho
    | cons i p =>
      cases i with
      | zero =>
        simp only [typeAt] at ht
        simp only [offs] at hv
        have hlt := typeAt_lt ht
        have hs : T.size = 1 := oty_size hg.oty
        rw [List.getElem?_append_left (by omega)] at hv
        exact (h2 g).2 (.inl (ihp h4 ht hv hg))
      | succ i =>
        simp only [typeAt] at ht
        simp only [offs] at hv
        rw [List.getElem?_append_right (by omega), l1, show p'.size + offs q' (i :: p) - p'.size = offs q' (i :: p) by omega] at hv
        exact (h2 g).2 (.inr (ihq h5 ht hv hg))
  | int k => intro x cs B p T v g h ht hv hg; cases p <;> simp [typeAt] at ht; subst ht; cases hg
  | bool => intro x cs B p T v g h ht hv hg; cases p <;> simp [typeAt] at ht; subst ht; cases hg
  | str => intro x cs B p T v g h ht hv hg; cases p <;> simp [typeAt] at ht; subst ht; cases hg
  | unit => intro x cs B p T v g h ht hv hg; cases p <;> simp [typeAt] at ht; subst ht; cases hg
theorem XRep.sepT : ∀ {t : Ty} {x : t.val} {cs : List Value} {B : Nat → Prop} {p q : List Nat} {T T' : Ty} {u v : Value} {g : Nat}, XRep w t x cs B → p ∈ slicePaths t → q ∈ slicePaths t → typeAt t p = some T → typeAt t q = some T' →
    cs[offs t p]? = some u → cs[offs t q]? = some v → Blk w T u g → Blk w T' v g → p = q := by
  intro t
  induction t with
  | slice d _ =>
    intro x cs B p q T T' u v g h hp hq ht ht' hu hv hgu hgv
    have key : ∀ {u v : Value}, cs[0]? = some u → cs[0]? = some v → Blk w (.slice d) u g → Blk w (.prod (.slice d) .unit) v g → False := by
      intro u v hu hv hgu hgv
      rw [hu] at hv; injection hv with hv; subst hv
      obtain ⟨i, q, e', z, a1, a2, a3⟩ := hgv
      obtain ⟨y, ds, Bi, b1, b2, b3, _, _⟩ := h.el hu a1 a2
      exact (b3 g (b1.blk a1 b2 a3)).2 hgu
    rcases typeAt_slice ht with ⟨rfl, rfl⟩ | ⟨rfl, rfl⟩ <;> rcases typeAt_slice ht' with ⟨rfl, rfl⟩ | ⟨rfl, rfl⟩
    · rfl
    · exact (key hu hv hgu hgv).elim
    · exact (key hv hu hgv hgu).elim
    · rfl
  | prod p' q' ihp ihq =>
    intro x cs B p q T T' u v g h hp hq ht ht' hu hv hgu hgv
    obtain ⟨c1, c2, B1, B2, rfl, h2, h3, h4, h5⟩ := h
    have l1 := h4.length
    have part : ∀ {r : List Nat}, r ∈ slicePaths (.prod p' q') → (∃ s, r = 0 :: s ∧ s ∈ slicePaths p') ∨ ∃ i s, r = (i + 1) :: s ∧ (i :: s) ∈ slicePaths q' := by
      intro r hr
      simp only [slicePaths, List.mem_append, List.mem_map] at hr
      rcases hr with ⟨s, hs, rfl⟩ | hr
      · exact .inl ⟨s, rfl, hs⟩
      · cases q' with
        | prod c d =>
          obtain ⟨i, s, e, hs⟩ := mem_bump hr (fun s hs => (slicePaths_spec hs).2 rfl)
          exact .inr ⟨i, s, e, hs⟩
        | _ => simp at hr
    have left : ∀ {r : List Nat} {S : Ty} {z : Value}, Blk w S z g → typeAt (.prod p' q') (0 :: r) = some S → (c1 ++ c2)[offs (.prod p' q') (0 :: r)]? = some z → typeAt p' r = some S ∧ c1[offs p' r]? = some z := by
      intro r S z hg ht hz
      simp only [typeAt] at ht
      simp only [offs] at hz
      have hlt := typeAt_lt ht
      have hs : S.size = 1 := oty_size hg.oty
      rw [List.getElem?_append_left (by omega)] at hz
      exact ⟨ht, hz⟩
    have right : ∀ {i : Nat} {r : List Nat} {S : Ty} {z : Value}, typeAt (.prod p' q') ((i + 1) :: r) = some S → (c1 ++ c2)[offs (.prod p' q') ((i + 1) :: r)]? = some z → typeAt q' (i :: r) = some S ∧ c2[offs q' (i :: r)]? = some z := by
      intro i r S z ht hz
      simp only [typeAt] at ht
      simp only [offs] at hz
      rw [List.getElem?_append_right (by omega), l1, show p'.size + offs q' (i :: r) - p'.size = offs q' (i :: r) by omega] at hz
      exact ⟨ht, hz⟩
    rcases part hp with ⟨s, rfl, hs⟩ | ⟨i, s, rfl, hs⟩ <;> rcases part hq with ⟨s', rfl, hs'⟩ | ⟨j, s', rfl, hs'⟩
    · obtain ⟨a1, a2⟩ := left hgu ht hu
      obtain ⟨b1, b2⟩ := left hgv ht' hv
      rw [ihp h4 hs hs' a1 b1 a2 b2 hgu hgv]
    · obtain ⟨a1, a2⟩ := left hgu ht hu
      obtain ⟨b1, b2⟩ := right ht' hv
      exact absurd (h5.blkT b1 b2 hgv) (h3 g (h4.blkT a1 a2 hgu))
    · obtain ⟨a1, a2⟩ := right ht hu
      obtain ⟨b1, b2⟩ := left hgv ht' hv
      exact absurd (h5.blkT a1 a2 hgu) (h3 g (h4.blkT b1 b2 hgv))
    · obtain ⟨a1, a2⟩ := right ht hu
      obtain ⟨b1, b2⟩ := right ht' hv
      have := ihq h5 hs hs' a1 b1 a2 b2 hgu hgv
      injection this with e1 e2
      rw [e1, e2]
  | int k => intro x cs B p q T T' u v g h hp; simp [slicePaths] at hp
  | bool => intro x cs B p q T T' u v g h hp; simp [slicePaths] at hp
  | str => intro x cs B p q T T' u v g h hp; simp [slicePaths] at hp
  | unit => intro x cs B p q T T' u v g h hp; simp [slicePaths] at hp
theorem XRep.ownT {base : Nat} : ∀ {t : Ty} {x : t.val} {cs : List Value} {B : Nat → Prop} {p : List Nat} {T : Ty}, XRep w t x cs B → (∀ g k, SeenIn w t cs g k → lim g = some k) → (∀ g, B g → base ≤ g) → typeAt t p = some T → OTy T = true →
    ∃ v, cs[offs t p]? = some v ∧ OwnT w lim base T v := by
  intro t
  induction t with
  | slice u ihu =>
    intro x cs B p T h hl hb ht ho
    rcases typeAt_slice ht with ⟨rfl, rfl⟩ | ⟨rfl, rfl⟩
    · obtain ⟨v, k1, k2⟩ := h.tip (p := []) rfl
      refine ⟨v, k1, ?_⟩
      rcases k2 with k2 | ⟨g, m, c, arr, el, fr, q1, q2, q3, q4, q5, q6⟩
      · exact .inl k2
      · exact .inr ⟨g, m, c, arr, el, fr, q1, hb g q6, q2, q3, q4, q5, hl g _ (h.seen_at (p := []) rfl (by rw [k1, q1]))⟩
    · obtain ⟨v, k1, k2⟩ := h.tip (p := []) rfl
      have hv : cs[0]? = some v := k1
      refine ⟨v, k1, fun i q e' z hq hz => ?_, fun i q e' z j r e'' z' g hq hr hz hz' hg hg' => ?_⟩
      · obtain ⟨y, ds, Bi, b1, b2, b3, b4, _⟩ := h.el hv hq hz
        obtain ⟨v', c1, c2⟩ := ihu b1 (fun g k hs => hl g k (b4 g k hs)) (fun g hg => hb g (b3 g hg).1) hq rfl
        rw [b2] at c1; injection c1 with c1; subst c1
        exact c2
      · obtain ⟨y, ds, Bi, b1, b2, b3, b4, b5⟩ := h.el hv hq hz
        obtain ⟨c1, c2⟩ := b5 hr hz' g (b1.blk hq b2 hg) hg'
        exact ⟨c1, b1.inj hq hr b2 c2 hg hg'⟩
  | prod p' q' ihp ihq =>
    intro x cs B p T h hl hb ht ho
    obtain ⟨c1, c2, B1, B2, rfl, h2, h3, h4, h5⟩ := h
    have l1 := h4.length
    have hl1 : ∀ g k, SeenIn w p' c1 g k → lim g = some k := fun g k hs => hl g k (.inl (by rw [← l1, List.take_left]; exact hs))
    have hl2 : ∀ g k, SeenIn w q' c2 g k → lim g = some k := fun g k hs => hl g k (.inr (by rw [← l1, List.drop_left]; exact hs))
    cases p with
    | nil =>
      simp only [typeAt] at ht; injection ht with ht; subst ht
      cases p' with
      | slice e =>
        cases q' with
        | unit =>
          obtain ⟨v, k1, k2⟩ := ihp (p := [0]) h4 hl1 (fun g hg => hb g ((h2 g).2 (.inl hg))) rfl rfl
          have k1 : c1[0]? = some v := k1
          exact ⟨v, by rw [show offs (.prod (.slice e) .unit) [] = 0 from rfl, List.getElem?_append_left (List.getElem?_eq_some_iff.1 k1).1]; exact k1, k2⟩
        | _ => cases ho
      | _ => cases ho
    | cons i p =>
      cases i with
      | zero =>
        simp only [typeAt] at ht
        obtain ⟨v, k1, k2⟩ := ihp h4 hl1 (fun g hg => hb g ((h2 g).2 (.inl hg))) ht ho
        exact ⟨v, by simp only [offs]; rw [List.getElem?_append_left (List.getElem?_eq_some_iff.1 k1).1]; exact k1, k2⟩
      | succ i =>
        simp only [typeAt] at ht
        obtain ⟨v, k1, k2⟩ := ihq h5 hl2 (fun g hg => hb g ((h2 g).2 (.inr hg))) ht ho
        refine ⟨v, ?_, k2⟩
        simp only [offs]
        rw [List.getElem?_append_right (by omega), l1, show p'.size + offs q' (i :: p) - p'.size = offs q' (i :: p) by omega]; exact k1
  | int k => intro x cs B p T h _ _ ht ho; cases p <;> simp [typeAt] at ht; subst ht; cases ho
  | bool => intro x cs B p T h _ _ ht ho; cases p <;> simp [typeAt] at ht; subst ht; cases ho
  | str => intro x cs B p T h _ _ ht ho; cases p <;> simp [typeAt] at ht; subst ht; cases ho
  | unit => intro x cs B p T h _ _ ht ho; cases p <;> simp [typeAt] at ht; subst ht; cases ho

theorem soleIn_inj {r t u : Tmp} {q q' : List Nat} (h1 : (st.env t).av = .xf r q) (h2 : (st.env u).av = .xf r q') : ∀ {rs : List ResultVar}, soleIn st r t rs = true → soleIn st r u rs = true → t = u
  | [], h, _ => by cases h
  | .cell _ _ :: rs, h, k => soleIn_inj h1 h2 (rs := rs) h k
  | .tmp x :: rs, h, k => by
    simp only [soleIn] at h k
    cases ht : Nat.beq x t with
    | true =>
      have et := nbeq ht
      rw [ht] at h; simp only [cnd_true] at h
      have hr : rootIn st r rs = false := by cases hq : rootIn st r rs with
        | false => rfl
        | true => rw [hq] at h; cases h
      cases hu : Nat.beq x u with
      | true => rw [← et, nbeq hu]
      | false =>
        rw [hu] at k; simp only [cnd_false] at k
        rw [et, h1] at k
        simp only [] at k
        have : Nat.beq r r = true := Nat.beq_refl r
        rw [this] at k; cases k
    | false =>
      rw [ht] at h; simp only [cnd_false] at h
      cases hu : Nat.beq x u with
      | true =>
        have eu := nbeq hu
        rw [eu, h2] at h
        simp only [] at h
        have : Nat.beq r r = true := Nat.beq_refl r
        rw [this] at h; cases h
      | false =>
        rw [hu] at k; simp only [cnd_false] at k
        split at h
        · rename_i c p hav
          rw [hav] at k; simp only [] at k
          cases hc : Nat.beq c r with
          | true => rw [hc] at h; cases h
          | false => rw [hc] at h k; exact soleIn_inj h1 h2 (rs := rs) h k
        · rename_i hno
          split at k
          · rename_i c p hav; exact absurd hav (hno c p)
          · exact soleIn_inj h1 h2 (rs := rs) h k

def seenTo (st : St) (β : Mp) (w : World) (g k : Nat) : Prop := ∃ r d, st.io r = some d ∧ SeenIn w d.1 (flatV (β.V r)) g k
open Classical in
noncomputable def limF (st : St) (β : Mp) (w : World) (lim : Lim) : Lim := fun g => if h : ∃ k, seenTo st β w g k then some h.choose else lim g
theorem seen_tree (h : Sim w0 lim0 rb n st a w lim β) {g k : Nat} (hs : seenTo st β w g k) : isTree st β g := by
  obtain ⟨r, d, h1, h2⟩ := hs
  exact .inl ⟨r, d, h1, (h.xs.io r d h1).seen_blk h2⟩
theorem limF_of (h : Sim w0 lim0 rb n st a w lim β) {g k : Nat} (hs : seenTo st β w g k) : limF st β w lim g = some k := by
  unfold limF
  have hex : ∃ k, seenTo st β w g k := ⟨k, hs⟩
  rw [dif_pos hex]
  obtain ⟨r, d, h1, h2⟩ := hs
  obtain ⟨r', d', k1, k2⟩ := hex.choose_spec
  have X := h.xs.io r d h1
  have X' := h.xs.io r' d' k1
  have := h.xs.dis r d r' d' g h1 k1 (X.seen_blk h2) (X'.seen_blk k2)
  subst this
  rw [h1] at k1; injection k1 with k1; subst k1
  rw [X.seen_inj k2 h2]
theorem limF_off (h : Sim w0 lim0 rb n st a w lim β) {g : Nat} (hs : ¬ isTree st β g) : limF st β w lim g = lim g := by
  unfold limF
  rw [dif_neg (fun ⟨k, hk⟩ => hs (seen_tree h hk))]
theorem ext_limF (h : Sim w0 lim0 rb n st a w lim β) : Ext w lim w (limF st β w lim) :=
  ⟨Nat.le_refl _, fun _ _ _ _ _ h => h, fun b m _ hu k hk => by
    by_cases ht : isTree st β b
    · have := hu 0 (h.xs.lt ht).2.2
      omega
    · rw [limF_off h ht] at hk; exact hu k hk⟩
theorem flat_wrap {t : Ty} {x : t.val} {cs : List Value} (h : CRep w lim t x cs) : flatV (wrapV t cs) = cs := by
  rw [flat_TRep (t := t) (x := x) (w := w) (lim := lim) ⟨cs, h, rfl⟩, wrapV_cells h]

theorem Sim.frz (h : Sim w0 lim0 rb n st a w lim β) (rs : List ResultVar) (hX : ∀ g, ¬ w0.X g) : Sim w0 lim0 rb n (Den.frz rs st) a w (limF st β w lim) β := by
  have hnr : ∀ g, isTree st β g → w0.heap.size ≤ g := fun g hg => by
    rcases (h.xs.lt hg).2.1 with k | k
    · exact k
    · exact absurd k (hX g)
  have hext := ext_limF h
  have xval : ∀ t r q, (st.env t).av = .xf r q → ∀ y, st.atX r q = some y → ∃ d cs, st.io r = some d ∧ getP d.1 d.2 q = some y ∧ CRep w (limF st β w lim) y.1 y.2 cs ∧ tmpOf a t = wrapV y.1 cs ∧ ∀ k v, cs[k]? = some v → (flatV (β.V r))[offs d.1 q + k]? = some v := by
    intro t r q hav y hy
    obtain ⟨d, hio, hv⟩ := xf_val h (x := .tmp t) hav hy
    obtain ⟨d2, Bu, m1, m2, m3, m6, m7, m8⟩ := h.atX hy
    rw [hio] at m1; injection m1 with m1; subst m1
    have hw := ((h.xs.io r d hio).crep2 (lim := limF st β w lim) (fun g k hs => limF_of h ⟨r, d, hio, hs⟩))
    obtain ⟨c1, c2, c3, q1, q2, q3, _⟩ := hw.part m2
    have hc2 : ((flatV (β.V r)).drop (offs d.1 q)).take y.1.size = c2 := by
      rw [q1, ← q2, List.drop_left, ← q3.length, List.take_left]
    refine ⟨d, c2, hio, m2, q3, by rw [← hc2]; exact hv, fun k v hk => ?_⟩
    rw [q1, ← q2, List.getElem?_append_right (by omega), show c1.length + k - c1.length = k by omega, List.getElem?_append_left (List.getElem?_eq_some_iff.1 hk).1]; exact hk
  -- what is owned then
  have ownc : ∀ l, (Den.frz rs st).own l = true → (st.own l = true ∧ locTy (Den.frz rs st) l = locTy st l ∧ locV (Den.frz rs st) a w β l = locV st a w β l) ∨
      ∃ t p r q y d, l = .tmp t p ∧ (st.env t).av = .xf r q ∧ st.atX r q = some y ∧ st.io r = some d ∧ soleIn st r t rs = true ∧ (q ++ p) ∈ slicePaths d.1 ∧ (∃ T v, typeAt d.1 (q ++ p) = some T ∧ OTy T = true ∧ (flatV (β.V r))[offs d.1 (q ++ p)]? = some v ∧ locTy (Den.frz rs st) l = some T ∧ locV (Den.frz rs st) a w β l = some v) := by
    intro l hl
    cases l with
    | box b p => exact .inl ⟨hl, rfl, rfl⟩
    | tmp t p =>
      simp only [Den.frz] at hl
      split at hl
      · rename_i r q hav
        split at hl
        · rename_i y hy
          cases hso : soleIn st r t rs with
          | false => rw [hso] at hl; cases hl
          | true =>
            rw [hso] at hl
            have hp := inPaths_iff.1 hl
            obtain ⟨⟨e, he, hoe⟩, _⟩ := slicePaths_spec hp
            obtain ⟨d, cs, k1, k2, k3, k4, k5⟩ := xval t r q hav y hy
            obtain ⟨g1, g2⟩ := getP_app k2 p he
            obtain ⟨v, hv, _⟩ := (h.xs.io r d k1).ownT (lim := limF st β w lim) (base := w0.heap.size) (fun g k hs => limF_of h ⟨r, d, k1, hs⟩) (fun g hg => hnr g (.inl ⟨r, d, k1, hg⟩)) g1 hoe
            have hcv : cs[offs y.1 p]? = some v := by
              have hlt := typeAt_lt he
              have hs : e.size = 1 := oty_size hoe
              have hl' := k3.length
              have := k5 (offs y.1 p) _ (List.getElem?_eq_getElem (by omega))
              rw [← g2, hv] at this; injection this with this
              rw [List.getElem?_eq_getElem (by omega), ← this]
            refine .inr ⟨t, p, r, q, y, d, rfl, hav, hy, k1, hso, getP_paths k2 hp, e, v, g1, hoe, hv, ?_, ?_⟩
            · have : ((Den.frz rs st).env t).av = .dat y.1 y.2 := by simp only [Den.frz, frzAV, hav, hy]
              simp only [locTy, this]; exact he
            · have : ((Den.frz rs st).env t).av = .dat y.1 y.2 := by simp only [Den.frz, frzAV, hav, hy]
              simp only [locV, this, k4, flat_wrap k3]; exact hcv
        · cases hl
      · rename_i hno
        obtain ⟨e, v, k1, _⟩ := h.own _ hl
        have hav : ((Den.frz rs st).env t).av = (st.env t).av := by
          simp only [Den.frz]
          simp only [locTy] at k1
          cases hq : (st.env t).av with
          | xf r q => exact absurd hq (hno r q)
          | xp _ _ _ _ => rw [hq] at k1; cases k1
          | xt _ => rw [hq] at k1; cases k1
          | xe _ _ => rw [hq] at k1; cases k1
          | cx _ _ => rw [hq] at k1; cases k1
          | _ => rfl
        exact .inl ⟨hl, by simp only [locTy, hav], by simp only [locV, hav]⟩
  -- and what stands behind it
  have hasc : ∀ l g, (Den.frz rs st).own l = true → HasL (Den.frz rs st) a w β l g → (st.own l = true ∧ HasL st a w β l g) ∨
      ∃ t p r q d T v, l = .tmp t p ∧ (st.env t).av = .xf r q ∧ st.io r = some d ∧ soleIn st r t rs = true ∧ (q ++ p) ∈ slicePaths d.1 ∧ typeAt d.1 (q ++ p) = some T ∧ (flatV (β.V r))[offs d.1 (q ++ p)]? = some v ∧ Blk w T v g ∧ β.B r g := by
    intro l g hl hg
    obtain ⟨T, v, m1, m2, m3⟩ := hg
    rcases ownc l hl with ⟨k1, k2, k3⟩ | ⟨t, p, r, q, y, d, rfl, k1, k2, k3, k4, kp, T', v', k5, ko, k6, k7, k8⟩
    · exact .inl ⟨k1, T, v, by rw [← k2]; exact m1, by rw [← k3]; exact m2, m3⟩
    · rw [k7] at m1; injection m1 with m1; subst m1
      rw [k8] at m2; injection m2 with m2; subst m2
      exact .inr ⟨t, p, r, q, d, T', v', rfl, k1, k3, k4, kp, k5, k6, m3, (h.xs.io r d k3).blkT k5 k6 m3⟩
  refine ⟨h.size, h.defers, h.grow, fun b hb => ?_, fun t => ?_, fun b d hb => ?_, h.inj, fun l hl => ?_, fun l g hl hg b d' hb => ?_, fun l l' g hl hl' hg hg' => ?_, fun t l ht => (by cases ht), fun d hd => ?_, ?_⟩
  · rw [limF_off h (fun ht => by have := hnr b ht; omega)]; exact h.limOld b hb
  · have ht := h.env t
    have hm : ∀ {av : AV}, (∀ r p, av ≠ .xf r p) → (∀ r p k q, av ≠ .xp r p k q) → (∀ k q, av ≠ .xe k q) → (∀ r, av ≠ .xt r) → (∀ b p, av ≠ .cx b p) → ERep st w lim β rb av (tmpOf a t) → ERep (Den.frz rs st) w (limF st β w lim) β rb av (tmpOf a t) := by
      intro av n1 n2 n5 n3 n4 hv
      cases av with
      | xf r p => exact absurd rfl (n1 r p)
      | xp r p k q => exact absurd rfl (n2 r p k q)
      | xe k q => exact absurd rfl (n5 k q)
      | xt r => exact absurd rfl (n3 r)
      | cx b p => exact absurd rfl (n4 b p)
      | dat ty x => exact TRep.mono hext hv
      | ref ty x =>
        obtain ⟨b, o, cs, e1, e2, e3, e4, e5⟩ := hv
        exact ⟨b, o, cs, e1, e2, e3.mono hext, hext.lim _ _ e2 e4, e5⟩
      | tup ty x =>
        obtain ⟨vs, e1, e2⟩ := hv
        exact ⟨vs, e1, e2.mono hext⟩
      | _ => exact hv
    have hav : ((Den.frz rs st).env t).av = frzAV st (st.env t).av := rfl
    rw [hav]
    cases hq : (st.env t).av with
    | xf r q =>
      simp only [frzAV]
      cases hy : st.atX r q with
      | none => trivial
      | some y =>
        obtain ⟨d, cs, _, _, k3, k4, _⟩ := xval t r q hq y hy
        exact ⟨cs, k3, k4⟩
    | xp _ _ _ _ => trivial
    | xe _ _ => trivial
    | xt _ => trivial
    | cx _ _ => trivial
    | _ => rw [hq] at ht; exact hm (fun _ _ e => by cases e) (fun _ _ _ _ e => by cases e) (fun _ _ e => by cases e) (fun _ e => by cases e) (fun _ _ e => by cases e) ht
  · obtain ⟨cells, e, h1, h2, h3, h4⟩ := h.box b d hb
    exact ⟨cells, e, h1, h2.mono hext, h3, (limF_off h (h.xs.offb hb)).trans h4⟩
  · rcases ownc l hl with ⟨k1, k2, k3⟩ | ⟨t, p, r, q, y, d, rfl, k1, k2, k3, k4, kp, T, v, k5, ko, k6, k7, k8⟩
    · obtain ⟨T, v, m1, m2, m3⟩ := h.own l k1
      exact ⟨T, v, k2.trans m1, k3.trans m2, m3.relim fun g hg => limF_off h (h.xs.off k1 ⟨T, v, m1, m2, hg⟩)⟩
    · obtain ⟨v', m1, m2⟩ := (h.xs.io r d k3).ownT (lim := limF st β w lim) (base := w0.heap.size) (fun g k hs => limF_of h ⟨r, d, k3, hs⟩) (fun g hg => hnr g (.inl ⟨r, d, k3, hg⟩)) k5 ko
      rw [k6] at m1; injection m1 with m1; subst m1
      exact ⟨T, v, k7, k8, m2⟩
  · rcases hasc l g hl hg with ⟨k1, k2⟩ | ⟨t, p, r, q, d, T, v, rfl, k1, k2, k3, k4, k5, k6, k7, k8⟩
    · exact h.ownb l g k1 k2 b d' hb
    · exact h.xs.box r d g k2 k8 b d' hb
  · rcases hasc l g hl hg with ⟨k1, k2⟩ | ⟨t, p, r, q, d, T, v, rfl, k1, k2, k3, k4, k5, k6, k7, k8⟩ <;> rcases hasc l' g hl' hg' with ⟨j1, j2⟩ | ⟨t', p', r', q', d', T', v', rfl, j1, j2, j3, j4, j5, j6, j7, j8⟩
    · exact h.sep l l' g k1 j1 k2 j2
    · exact absurd k2 (h.xs.own r' d' g j2 j8 l k1)
    · exact absurd j2 (h.xs.own r d g k2 k8 l' j1)
    · have er := h.xs.dis r d r' d' g k2 j2 k8 j8
      subst er
      have et := soleIn_inj k1 j1 k3 j3
      subst et
      rw [k1] at j1; injection j1 with _ j1; subst j1
      rw [k2] at j2; injection j2 with j2; subst j2
      have := (h.xs.io r d k2).sepT k4 j4 k5 j5 k6 j6 k7 j7
      rw [List.append_cancel_left this]
  · obtain ⟨b, cells, e, k1, k2, k3, k4, k5⟩ := h.rd d hd
    exact ⟨b, cells, e, k1, k2, k3, k4.mono hext, (limF_off h (fun ht => by have := hnr b ht; omega)).trans k5⟩
  · exact ⟨fun _ _ hr => (by cases hr), fun _ _ _ hr => (by cases hr), fun _ _ _ hr => (by cases hr), fun _ _ _ hr => (by cases hr), fun _ _ _ _ _ hr => (by cases hr), fun _ _ _ hb => (by cases hb), fun _ _ _ hb => (by cases hb), fun _ _ _ _ _ _ hb => (by cases hb), fun _ hd => (by cases hd), fun _ hd => (by cases hd)⟩
end
end Go.Den

namespace Go.Den
section
variable {P : Program} {tab : Tab} {G : Gam} {w0 : Base} {lim0 : Lim} {rb : Option Nat} {n : Nat}
variable {st st' : St} {a : Act} {w : World} {lim : Lim} {β : Mp}

theorem putArgs_env {w : World} {lim : Lim} {rb : Option Nat} : ∀ {t : Ty} {x : t.val} {vals : List Value} {i : Nat}, ArgsRep w lim rb t x vals → ∀ j, ((putArgs t x i).env j).av = .any ∨
    ∃ k v, j = i + k ∧ vals[k]? = some v ∧ ((∃ b y, ((putArgs t x i).env j).av = .dat b y ∧ TRep w lim b y v) ∨ (((putArgs t x i).env j).av = .rdr [] ∧ ∃ g, rb = some g ∧ v = .pointer (some ⟨g, 0, none⟩))) := by
  intro t
  induction t with
  | prod p q ihp ihq =>
    intro x vals i h j
    cases vals with
    | nil => exact h.elim
    | cons v vals =>
      obtain ⟨h1, h2⟩ := h
      have he : (putArgs (.prod p q) x i).env j = cnd (Nat.beq j i) ⟨argAV p x.1, none⟩ ((putArgs q x.2 (Nat.succ i)).env j) := rfl
      rw [he]
      cases hq : Nat.beq j i with
      | true =>
        have := nbeq hq; subst this
        refine .inr ⟨0, v, rfl, rfl, ?_⟩
        rcases h1 with ⟨h1, h3⟩ | ⟨h1, h3⟩
        · have : argAV p x.1 = .dat p x.1 := by cases p <;> first | rfl | exact absurd rfl h1
          exact .inl ⟨p, x.1, this, h3⟩
        · subst h1; exact .inr ⟨rfl, h3⟩
      | false =>
        rcases ihq (i := Nat.succ i) h2 j with h3 | ⟨k, v', h3, h4, h5⟩
        · exact .inl h3
        · exact .inr ⟨k + 1, v', h3.trans (Nat.succ_add_eq_add_succ i k), by simpa using h4, h5⟩
  | unit => intro x vals i _ j; exact .inl rfl
  | int k => intro x vals i h; cases vals <;> exact h.elim
  | bool => intro x vals i h; cases vals <;> exact h.elim
  | str => intro x vals i h; cases vals <;> exact h.elim
  | slice t => intro x vals i h; cases vals <;> exact h.elim
theorem putArgs_rest : ∀ {t : Ty} {x : t.val} {i : Nat}, (∀ j, ((putArgs t x i).env j).tag = none) ∧ (∀ b, (putArgs t x i).box b = none) ∧ (∀ l, (putArgs t x i).own l = false) ∧ (putArgs t x i).rd = none := by
  intro t
  induction t with
  | prod p q ihp ihq =>
    intro x i
    obtain ⟨h1, h2, h3, h4⟩ := ihq (x := x.2) (i := Nat.succ i)
    refine ⟨fun j => ?_, h2, fun l => ?_, h4⟩
    · have he : (putArgs (.prod p q) x i).env j = cnd (Nat.beq j i) ⟨argAV p x.1, none⟩ ((putArgs q x.2 (Nat.succ i)).env j) := rfl
      rw [he]
      cases Nat.beq j i with
      | true => rfl
      | false => exact h1 j
    · cases l with
      | box b p => exact h3 _
      | tmp u r =>
        have he : (putArgs (.prod p q) x i).own (.tmp u r) = cnd (Nat.beq u i) (inPaths r []) ((putArgs q x.2 (Nat.succ i)).own (.tmp u r)) := rfl
        rw [he]
        cases Nat.beq u i with
        | true => rfl
        | false => exact h3 _
  | _ => intro x i; exact ⟨fun _ => rfl, fun _ => rfl, fun _ => rfl, rfl⟩

theorem putArgs_trees : ∀ {t : Ty} {x : t.val} {i : Nat}, (∀ r, (putArgs t x i).io r = none) ∧ ∀ b, (putArgs t x i).xb b = none := by
  intro t
  induction t with
  | prod p q ihp ihq =>
    intro x i
    obtain ⟨h1, h2⟩ := ihq (x := x.2) (i := Nat.succ i)
    exact ⟨h1, h2⟩
  | _ => intro x i; exact ⟨fun _ => rfl, fun _ => rfl⟩
def base0 (w : World) : Base := { w with X := fun _ => False, mu := false, V0 := undef }
theorem base0_grown {w w' : World} {rb : Option Nat} (h : (base0 w).grownBy w' rb) : w.grownBy w' rb :=
  ⟨h.os, h.tape, h.output, h.size, fun i hi hne => h.block i hi hne id⟩
theorem no_trees {w0 : Base} {rb : Option Nat} {st : St} {a : Act} {w : World} {lim : Lim} {β : Mp} (h1 : ∀ r, st.io r = none) (h2 : ∀ b, st.xb b = none) : Own w0 rb st a w lim β :=
  ⟨fun r _ hr => (by rw [h1] at hr; cases hr), fun r _ _ hr => (by rw [h1] at hr; cases hr), fun r _ _ hr => (by rw [h1] at hr; cases hr), fun r _ _ hr => (by rw [h1] at hr; cases hr), fun r _ _ _ _ hr => (by rw [h1] at hr; cases hr), fun b _ _ hb => (by rw [h2] at hb; cases hb), fun b _ _ hb => (by rw [h2] at hb; cases hb), fun b _ _ _ _ _ hb => (by rw [h2] at hb; cases hb), fun _ hd => (by rw [h1] at hd; cases hd), fun _ hd => (by rw [h1] at hd; cases hd)⟩
theorem offs_nil (t : Ty) : offs t [] = 0 := by cases t <;> rfl
theorem whole_cells {w : World} {g : Nat} {cells : Array Value} {e : TypeId} (hg : w.heap[g]? = some (.cells cells e (0, 0))) : ∀ (j : Nat), w.cell? ⟨g, j, none⟩ = cells.toList[j]? := by
  intro j
  simp [World.cell?, hg]

theorem resVal_ok (hT : TabOk P tab) (h : Sim w0 lim0 rb n st a w lim β) {ty : Ty} {r : ResultVar} {x : ty.val} (hr : resVal tab st ty r = some x) :
    ∃ v, (match r with | .tmp t => pure (a.tmps.getD t undef) | .cell c t => do loadVar t (← asAddr (a.tmps.getD c undef)) : Sem Value).run P w = .ok v w ∧ TRep w lim ty x v ∧
      ∀ p l, resLoc st p r = some l → st.own l = true → typeAt ty p = locTy st l ∧ v.cells.toList[offs ty p]? = locV st a w β l := by
  cases r with
  | tmp t =>
    simp only [resVal] at hr
    refine ⟨_, Sem.run_pure _ _ _, as_rep hr (h.env t), fun p l hl ho => ?_⟩
    injection hl with hl; subst hl
    obtain ⟨e, v, k1, k2, _⟩ := h.own _ ho
    have hav : (st.env t).av = .dat ty x := by
      rcases as_dat hr with h1 | h1
      · exact h1
      · simp only [locTy, h1] at k1; cases k1
    have ht := h.env t
    rw [hav] at ht
    refine ⟨by simp only [locTy, hav], ?_⟩
    simp only [locV, hav]
    rw [flat_TRep ht]; rfl
  | cell c t =>
    simp only [resVal] at hr
    split at hr
    · rename_i b hav
      have hc := h.env c
      rw [hav] at hc
      obtain ⟨d, k1, k2⟩ := hc
      rw [k1] at hr
      simp only [] at hr
      cases hty : tyIs (tab t) d.1 with
      | false => rw [hty] at hr; cases hr
      | true =>
        rw [hty] at hr
        obtain ⟨e1, e2⟩ := cast_some hr
        obtain ⟨dt, dv⟩ := d
        simp only at e1 e2 k1 k2 hty
        subst e1; subst e2
        obtain ⟨cells, e, m1, m2, m3, m4⟩ := h.box b _ k1
        have hcell := whole_cells m1
        have hload := run_loadVar (P := P) (hT _ _ (tyIs_some hty)) m2 (b := β b) (o := 0) (w := w) (fun j u hu => by rw [Nat.zero_add, hcell]; exact hu)
        have hp : a.tmps.getD c undef = .pointer (some ⟨β b, 0, none⟩) := by
          have : offs dt [] = 0 := by cases dt <;> rfl
          rw [this] at k2; exact k2
        refine ⟨_, ?_, ⟨_, m2, rfl⟩, fun p l hl ho => ?_⟩
        · simp only [hp, asAddr, Sem.run_bind, Sem.run_pure, Result.andThen_ok]
          exact hload
        · simp only [resLoc, hav] at hl
          injection hl with hl; subst hl
          refine ⟨by simp only [locTy, k1], ?_⟩
          simp only [locV, k1, hcell]
          rw [wrapV_cells m2]
    · cases hr

theorem resVals_ok (hT : TabOk P tab) (h : Sim w0 lim0 rb n st a w lim β) :
    ∀ {ty : Ty} {rs : List ResultVar} {x : ty.val}, resVals tab st ty rs = some x → ∃ vs : List Value, (∀ (f : ResultVar → Sem Value) (_ : ∀ u, f (.tmp u) = pure (a.tmps.getD u undef)) (_ : ∀ c t, f (.cell c t) = (do loadVar t (← asAddr (a.tmps.getD c undef)))), (rs.mapM f).run P w = .ok vs w) ∧ TupRep w lim ty x vs ∧ vs.length = rs.length ∧
      ∀ i r p l, nthR rs i = some r → resLoc st p r = some l → st.own l = true → typeAt ty (i :: p) = locTy st l ∧ (vs.flatMap fun v => v.cells.toList)[offs ty (i :: p)]? = locV st a w β l := by
  intro ty
  induction ty with
  | prod p q ihp ihq =>
    intro rs x hr
    cases rs with
    | nil => cases hr
    | cons r rs =>
      simp only [resVals] at hr
      cases h1 : resVal tab st p r with
      | none => rw [h1] at hr; cases hr
      | some y =>
        cases h2 : resVals tab st q rs with
        | none => rw [h1, h2] at hr; cases hr
        | some z =>
          rw [h1, h2] at hr
          injection hr with hr; subst hr
          obtain ⟨v, k1, k2, k3⟩ := resVal_ok hT h h1
          obtain ⟨vs, m1, m2, m3, m4⟩ := ihq h2
          refine ⟨v :: vs, fun f hf hc => ?_, ⟨v, vs, rfl, k2, m2⟩, by simp [m3], fun i r' pp l hi hl ho => ?_⟩
          · have hfr : (f r).run P w = .ok v w := by
              cases r with
              | tmp u => rw [hf]; exact k1
              | cell c t => rw [hc]; exact k1
            simp [List.mapM_cons, hfr, m1 f hf hc]
          have hlen := k2.cells.length
          cases i with
          | zero =>
            injection hi with hi; subst hi
            obtain ⟨e1, e2⟩ := k3 pp l hl ho
            refine ⟨e1, ?_⟩
            obtain ⟨e, u, _, k5, _⟩ := h.own _ ho
            simp only [offs, List.flatMap_cons]
            rw [k5] at e2 ⊢
            rw [List.getElem?_append_left (List.getElem?_eq_some_iff.1 e2).1]; exact e2
          | succ i =>
            obtain ⟨e1, e2⟩ := m4 i r' pp l hi hl ho
            refine ⟨e1, ?_⟩
            simp only [offs, List.flatMap_cons]
            rw [List.getElem?_append_right (by omega), hlen, show p.size + offs q (i :: pp) - p.size = offs q (i :: pp) by omega]; exact e2
  | unit =>
    intro rs x hr
    cases rs with
    | nil => exact ⟨[], fun _ _ _ => by simp, rfl, rfl, fun i r p l hi => by cases hi⟩
    | cons r rs => cases hr
  | int k => intro rs x hr; cases rs <;> cases hr
  | bool => intro rs x hr; cases rs <;> cases hr
  | str => intro rs x hr; cases rs <;> cases hr
  | slice t => intro rs x hr; cases rs <;> cases hr

theorem resLocs_mem {rs : List ResultVar} : ∀ {ps : List (List Nat)} {ls : List Loc}, resLocs st rs ps = some ls → ∀ p ∈ ps, ∃ i q r l, p = i :: q ∧ nthR rs i = some r ∧ resLoc st q r = some l ∧ st.own l = true ∧ l ∈ ls
  | [], ls, h, p, hp => by cases hp
  | [] :: ps, ls, h, p, hp => by cases h
  | (i :: q) :: ps, ls, h, p, hp => by
    simp only [resLocs] at h
    cases h1 : nthR rs i with
    | none => rw [h1] at h; cases h
    | some r =>
      rw [h1] at h; simp only [] at h
      cases h2 : resLoc st q r with
      | none => rw [h2] at h; cases h
      | some l =>
        rw [h2] at h; simp only [] at h
        cases h3 : resLocs st rs ps with
        | none => rw [h3] at h; cases h
        | some ls' =>
          rw [h3] at h; simp only [] at h
          cases h4 : st.own l with
          | false => rw [h4] at h; cases h
          | true =>
            cases h5 : inLocs l ls' with
            | true => rw [h4, h5] at h; cases h
            | false =>
              rw [h4, h5] at h
              injection h with h; subst h
              rcases List.mem_cons.1 hp with rfl | hp
              · exact ⟨i, q, r, l, rfl, h1, h2, h4, by simp⟩
              · obtain ⟨i', q', r', l', k1, k2, k3, k4, k5⟩ := resLocs_mem h3 p hp
                exact ⟨i', q', r', l', k1, k2, k3, k4, by simp [k5]⟩
theorem resLocs_inj {rs : List ResultVar} : ∀ {ps : List (List Nat)} {ls : List Loc}, resLocs st rs ps = some ls → ∀ i q r l i' q' r', (i :: q) ∈ ps → (i' :: q') ∈ ps → nthR rs i = some r → nthR rs i' = some r' → resLoc st q r = some l → resLoc st q' r' = some l → i :: q = i' :: q'
  | [], ls, h, i, q, r, l, i', q', r', hp, _, _, _, _, _ => by cases hp
  | [] :: ps, ls, h, _, _, _, _, _, _, _, hp, _, _, _, _, _ => by cases h
  | (j :: s) :: ps, ls, h, i, q, r, l, i', q', r', hp, hp', hr, hr', hl, hl' => by
    simp only [resLocs] at h
    cases h1 : nthR rs j with
    | none => rw [h1] at h; cases h
    | some rj =>
      rw [h1] at h; simp only [] at h
      cases h2 : resLoc st s rj with
      | none => rw [h2] at h; cases h
      | some lj =>
        rw [h2] at h; simp only [] at h
        cases h3 : resLocs st rs ps with
        | none => rw [h3] at h; cases h
        | some ls' =>
          rw [h3] at h; simp only [] at h
          cases h4 : st.own lj with
          | false => rw [h4] at h; cases h
          | true =>
            cases h5 : inLocs lj ls' with
            | true => rw [h4, h5] at h; cases h
            | false =>
              have clash : ∀ {i q r}, (i :: q) ∈ ps → nthR rs i = some r → resLoc st q r = some lj → False := by
                intro i q r hm hi hq
                obtain ⟨i2, q2, r2, l2, k1, k2, k3, k4, k5⟩ := resLocs_mem h3 _ hm
                injection k1 with k1 k1'; subst k1; subst k1'
                rw [hi] at k2; injection k2 with k2; subst k2
                rw [hq] at k3; injection k3 with k3; subst k3
                rw [inLocs_iff.2 k5] at h5; cases h5
              rcases List.mem_cons.1 hp with hp | _
              · injection hp with e1 e2; subst e1; subst e2
                rw [h1] at hr; injection hr with hr; subst hr
                rw [h2] at hl; injection hl with hl; subst hl
                rcases List.mem_cons.1 hp' with hp' | hp'
                · injection hp' with e1 e2; subst e1; subst e2; rfl
                · exact (clash hp' hr' hl').elim
              · rename_i hpm
                rcases List.mem_cons.1 hp' with hp' | hp'
                · injection hp' with e1 e2; subst e1; subst e2
                  rw [h1] at hr'; injection hr' with hr'; subst hr'
                  rw [h2] at hl'; injection hl' with hl'; subst hl'
                  exact (clash hpm hr hl).elim
                · exact resLocs_inj h3 i q r l i' q' r' hpm hp' hr hr' hl hl'

theorem one_rep {t : Ty} {y : t.val} {v : Value} (m2 : TupRep w lim t y [v]) : ERep st00 w lim mp0 none (resAV t true y) v := by
  cases t with
  | prod p q' =>
    obtain ⟨v', vs', hv, t1, t2⟩ := m2
    injection hv with hv hvs; subst hv; subst hvs
    cases q' with
    | unit => exact t1
    | prod _ _ => obtain ⟨v', vs', hv, _⟩ := t2; cases hv
    | _ => exact t2.elim
  | unit => cases m2
  | _ => exact m2.elim
theorem one_part {t : Ty} {y : t.val} {v : Value} (m2 : TupRep w lim t y [v]) {q : List Nat} {lt : Option Ty} {lv : Option Value} (e1 : typeAt t (0 :: q) = lt) (e2 : ([v].flatMap fun v => v.cells.toList)[offs t (0 :: q)]? = lv) :
    typeAV q (resAV t true y) = lt ∧ partAV v q (resAV t true y) = lv := by
  cases t with
  | prod p q' =>
    obtain ⟨v', vs', hv, t1, t2⟩ := m2
    injection hv with hv hvs; subst hv; subst hvs
    cases q' with
    | unit =>
      simp only [resAV, typeAV, partAV]
      refine ⟨e1, ?_⟩
      rw [flat_TRep t1]
      simpa [offs] using e2
    | prod _ _ => obtain ⟨v', vs', hv, _⟩ := t2; cases hv
    | _ => exact t2.elim
  | unit => cases m2
  | _ => exact m2.elim

theorem rb_lt {s : Sig} {w : World} {lim : Lim} {rb : Option Nat} {rd : s.rdty.val} (hrd : RdIn w lim rb s rd) : ∀ k, some k = rb → k < w.heap.size := by
  intro k hk
  cases hu : s.usesRd with
  | true =>
    obtain ⟨b, cells, e, h1, h2, _⟩ := hrd.1 hu
    rw [h1] at hk; injection hk with hk; subst hk
    exact (Array.getElem?_eq_some_iff.1 h2).1
  | false => rw [hrd.2 hu] at hk; cases hk

theorem start_sim {s : Sig} {w : World} {lim : Lim} {rb : Option Nat} {x : s.aty.val} {rd : s.rdty.val} {vals : List Value} (m : Nat) (hargs : ArgsRep w lim rb s.aty x vals) (hrd : RdIn w lim rb s rd) :
    Sim (base0 w) lim rb (vals.toArray ++ Array.replicate (m - vals.toArray.size) undef).size (startOf s.aty s.rdty s.usesRd x rd) { tmps := vals.toArray ++ Array.replicate (m - vals.toArray.size) undef, defers := [] } w lim mp0 := by
  obtain ⟨q1, q2, q3, q4⟩ := putArgs_rest (t := s.aty) (x := x) (i := 0)
  have henv := putArgs_env (i := 0) hargs
  unfold startOf
  have e1 : ∀ t, (cnd s.usesRd { putArgs s.aty x 0 with rd := some ⟨s.rdty, rd⟩ } (putArgs s.aty x 0)).env t = (putArgs s.aty x 0).env t := fun t => by cases s.usesRd <;> rfl
  have e2 : ∀ t, (cnd s.usesRd { putArgs s.aty x 0 with rd := some ⟨s.rdty, rd⟩ } (putArgs s.aty x 0)).box t = (putArgs s.aty x 0).box t := fun t => by cases s.usesRd <;> rfl
  have e3 : ∀ t, (cnd s.usesRd { putArgs s.aty x 0 with rd := some ⟨s.rdty, rd⟩ } (putArgs s.aty x 0)).own t = (putArgs s.aty x 0).own t := fun t => by cases s.usesRd <;> rfl
  refine ⟨rfl, rfl, ⟨rfl, rfl, rfl, Nat.le_refl _, fun _ _ _ _ => rfl⟩, fun _ _ => rfl, fun t => ?_, fun b d hbx => ?_, fun b c d d' hbx => ?_, fun l hl => ?_, fun l g hl => ?_, fun l l' g hl => ?_, fun t l hl => ?_, fun d hd => ?_, ?_⟩
  · rw [e1]
    rcases henv t with h1 | ⟨k, v, h1, h2, h3⟩
    · rw [h1]; trivial
    · have hv : tmpOf { tmps := vals.toArray ++ Array.replicate (m - vals.toArray.size) undef, defers := [] } t = v := by
        have hk := (List.getElem?_eq_some_iff.1 h2).1
        have : t = k := h1.trans (Nat.zero_add k)
        subst this
        simp only [tmpOf]
        rw [Array.getD_eq_getD_getElem?, Array.getElem?_append_left (by simpa using hk)]
        simp [h2]
      rw [hv]
      rcases h3 with ⟨b, y, h3, h4⟩ | ⟨h3, g, h4, h5⟩
      · rw [h3]; exact h4
      · rw [h3]
        cases hu : s.usesRd with
        | false => rw [hrd.2 hu] at h4; cases h4
        | true => exact ⟨⟨s.rdty, rd⟩, g, rfl, h4, by rw [h5, offs_nil]⟩
  · rw [e2, q2] at hbx; cases hbx
  · rw [e2, q2] at hbx; cases hbx
  · rw [e3, q3] at hl; cases hl
  · rw [e3, q3] at hl; cases hl
  · rw [e3, q3] at hl; cases hl
  · rw [e1, q1] at hl; cases hl
  · cases hu : s.usesRd with
    | false => rw [hu] at hd; simp only [cnd_false, q4] at hd; cases hd
    | true =>
      rw [hu] at hd
      injection hd with hd; subst hd
      obtain ⟨b, cells, e, h1, h2, h3, h4⟩ := hrd.1 hu
      exact ⟨b, cells, e, h1, (Array.getElem?_eq_some_iff.1 h2).1, h2, h3, h4⟩
  · obtain ⟨t1, t2⟩ := putArgs_trees (t := s.aty) (x := x) (i := 0)
    exact no_trees (fun r => by cases s.usesRd <;> exact t1 r) (fun b => by cases s.usesRd <;> exact t2 b)

theorem fn_core (hT : TabOk P tab) (hG : GamOk P G) (hm : P.follows .mixedOrders = true) {f : FuncId} {fn : Func} {c : Code} (hf : P.funcs[f]? = some fn) (hb : fn.body = some c)
    (s : Sig) (hone : Nat.beq fn.results.toList.length 1 = s.one) {ann : Ann} {fuel : Nat} (hdst : dstsOk fn.ntmps c = true) {st0 : St} {r : s.rty.val × s.rdty.val}
    (he : evalK tab G ann fuel c (s.rty.val × s.rdty.val) st0 (finOf tab fn.results.toList s.rdty s.usesRd s.rty s.own) (finOf tab fn.results.toList s.rdty s.usesRd s.rty s.own) (fun _ _ => none) = some r)
    {w : World} {lim : Lim} {rb : Option Nat} {vals : List Value} (hrb : ∀ k, some k = rb → k < w.heap.size)
    (hsim : Sim (base0 w) lim rb (vals.toArray ++ Array.replicate (fn.ntmps - vals.toArray.size) undef).size st0 { tmps := vals.toArray ++ Array.replicate (fn.ntmps - vals.toArray.size) undef, defers := [] } w lim mp0) :
    Calls P f vals.toArray w (RetOk w lim rb s r) := by
  refine calls_of_wp hf hb ?_
  -- what stands at the end
  have hend : ∀ st', finOf tab fn.results.toList s.rdty s.usesRd s.rty s.own st' = some r → ∀ a' w' lim' β', Sim (base0 w) lim rb (vals.toArray ++ Array.replicate (fn.ntmps - vals.toArray.size) undef).size st' a' w' lim' β' →
      a'.defers = [] ∧ ∃ v, (results fn a'.tmps).run P w' = .ok v w' ∧ RetOk w lim rb s r (.returned v) w' := by
    intro st0' hfin a' w' lim0' β' hs0
    have hs := hs0.frz fn.results.toList (fun _ hg => hg)
    unfold finOf at hfin
    simp only [] at hfin
    revert hfin hs
    generalize frz fn.results.toList st0' = st'
    generalize limF st0' β' w' lim0' = lim'
    intro hfin hs
    refine ⟨hs.defers, ?_⟩
    cases h1 : resVals tab st' s.rty fn.results.toList with
    | none => rw [h1] at hfin; cases hfin
    | some y =>
      cases h2 : resLocs st' fn.results.toList s.own with
      | none => rw [h1, h2] at hfin; cases hfin
      | some ls =>
        rw [h1, h2] at hfin
        simp only [] at hfin
        have hr1 : r.1 = y ∧ (s.usesRd = true → ∃ d, st'.rd = some d ∧ Ty.cast d.1 s.rdty d.2 = some r.2) := by
          cases hu : s.usesRd with
          | false => rw [hu] at hfin; injection hfin with hfin; subst hfin; exact ⟨rfl, fun h => by cases h⟩
          | true =>
            rw [hu] at hfin
            simp only [cnd_true] at hfin
            cases h3 : st'.rd with
            | none => rw [h3] at hfin; cases hfin
            | some d =>
              rw [h3] at hfin; simp only [] at hfin
              cases h4 : Ty.cast d.1 s.rdty d.2 with
              | none => rw [h4] at hfin; cases hfin
              | some z =>
                rw [h4] at hfin; injection hfin with hfin; subst hfin
                exact ⟨rfl, fun _ => ⟨d, rfl, h4⟩⟩
        obtain ⟨hry, hrrd⟩ := hr1
        obtain ⟨vs, m1, m2, m3, m4⟩ := resVals_ok hT hs h1
        have hrun : (results fn a'.tmps).run P w' = .ok (if h : vs.toArray.size = 1 then vs.toArray[0] else .tuple vs.toArray) w' := by
          unfold results
          rw [show fn.results = fn.results.toList.toArray by simp, List.mapM_toArray]
          simp only [Sem.run_bind, Sem.run_map]
          rw [m1]
          · simp
          · intro u; rfl
          · intro c t; rfl
        refine ⟨_, hrun, _, lim', rfl, base0_grown hs.grow, hs.limOld, ?_⟩
        -- the value
        have shape : (s.one = false ∧ (if h : vs.toArray.size = 1 then vs.toArray[0] else .tuple vs.toArray) = .tuple vs.toArray) ∨
            (s.one = true ∧ ∃ v, vs = [v] ∧ (if h : vs.toArray.size = 1 then vs.toArray[0] else .tuple vs.toArray) = v) := by
          cases ho : s.one with
          | true =>
            rw [ho] at hone
            have hl := nbeq hone
            obtain ⟨v, rfl⟩ := List.length_eq_one_iff.1 (m3.trans hl)
            exact .inr ⟨rfl, v, rfl, by simp⟩
          | false =>
            rw [ho] at hone
            have hl : fn.results.toList.length ≠ 1 := fun e => by rw [e] at hone; cases hone
            refine .inl ⟨rfl, ?_⟩
            rw [dif_neg]
            simp only [List.size_toArray]
            rw [m3]; exact hl
        -- a slice that is handed out
        have part : ∀ i q r' l, nthR fn.results.toList i = some r' → resLoc st' q r' = some l → st'.own l = true →
            ∃ p', (s.one = true → p' = q) ∧ (s.one = false → p' = i :: q) ∧ typeAV p' (resAV s.rty s.one r.1) = locTy st' l ∧
              partAV (if h : vs.toArray.size = 1 then vs.toArray[0] else .tuple vs.toArray) p' (resAV s.rty s.one r.1) = locV st' a' w' β' l := by
          intro i q r' l hi hl ho
          obtain ⟨e1, e2⟩ := m4 i r' q l hi hl ho
          rcases shape with ⟨s1, s2⟩ | ⟨s1, v, s2, s3⟩
          · refine ⟨i :: q, fun h => (by rw [s1] at h; cases h), fun _ => rfl, ?_, ?_⟩
            · rw [s1]
              have : resAV s.rty false r.1 = .tup s.rty r.1 := by unfold resAV; split <;> simp_all
              rw [this]; exact e1
            · rw [s2, s1]
              have : resAV s.rty false r.1 = .tup s.rty r.1 := by unfold resAV; split <;> simp_all
              rw [this]
              simpa [partAV, flatV] using e2
          · refine ⟨q, fun _ => rfl, fun h => (by rw [s1] at h; cases h), ?_⟩
            subst s2
            rw [s3, s1, hry]
            have hi0 : i = 0 := by
              cases hrs : fn.results.toList with
              | nil => rw [hrs] at hi; cases hi
              | cons r0 rs =>
                rw [hrs] at hi m3
                have : rs = [] := by simpa using m3
                subst this
                cases i with
                | zero => rfl
                | succ i => cases hi
            subst hi0
            exact one_part m2 e1 e2
        refine ⟨?_, fun p hp => ?_, fun p hp q hq T1 T2 x' y' g ht1 ht2 hx' hy' hbx hby => ?_, fun hu => ?_⟩
        · rcases shape with ⟨s1, s2⟩ | ⟨s1, v, s2, s3⟩
          · rw [s2, s1, hry]
            have : resAV s.rty false y = .tup s.rty y := by unfold resAV; split <;> simp_all
            rw [this]; exact ⟨vs, rfl, m2⟩
          · rw [s3, s1, hry]
            subst s2
            exact one_rep m2
        · have src : ∃ i q, (i :: q) ∈ s.own ∧ (s.one = true → p = q) ∧ (s.one = false → p = i :: q) := by
            cases ho : s.one with
            | true =>
              rw [ho] at hp
              obtain ⟨p0, hp0, rfl⟩ := List.mem_map.1 hp
              obtain ⟨i, q, r', l, k1, _⟩ := resLocs_mem h2 p0 hp0
              subst k1
              exact ⟨i, q, hp0, fun _ => rfl, fun h => by cases h⟩
            | false =>
              rw [ho] at hp
              obtain ⟨i, q, r', l, k1, _⟩ := resLocs_mem h2 p hp
              subst k1
              exact ⟨i, q, hp, fun h => (by cases h), fun _ => rfl⟩
          obtain ⟨i, q, hm', t1, t2⟩ := src
          obtain ⟨i', q', r', l, k1, k2, k3, k4, _⟩ := resLocs_mem h2 _ hm'
          injection k1 with k1 k1'; subst k1; subst k1'
          obtain ⟨p', u1, u2, u3, u4⟩ := part _ _ r' l k2 k3 k4
          have : p = p' := by
            cases ho : s.one with
            | true => rw [t1 ho, u1 ho]
            | false => rw [t2 ho, u2 ho]
          subst this
          obtain ⟨e, v, z1, z2, z3⟩ := hs.own l k4
          exact ⟨e, v, u3.trans z1, u4.trans z2, z3⟩
        · have src : ∀ p, p ∈ resOwn s.one s.own → ∃ i q r' l, (i :: q) ∈ s.own ∧ nthR fn.results.toList i = some r' ∧ resLoc st' q r' = some l ∧ st'.own l = true ∧ (s.one = true → p = q) ∧ (s.one = false → p = i :: q) ∧ typeAV p (resAV s.rty s.one r.1) = locTy st' l ∧
              partAV (if h : vs.toArray.size = 1 then vs.toArray[0] else .tuple vs.toArray) p (resAV s.rty s.one r.1) = locV st' a' w' β' l := by
            intro p hp
            have src : ∃ i q, (i :: q) ∈ s.own ∧ (s.one = true → p = q) ∧ (s.one = false → p = i :: q) := by
              cases ho : s.one with
              | true =>
                rw [ho] at hp
                obtain ⟨p0, hp0, rfl⟩ := List.mem_map.1 hp
                obtain ⟨i, q, r', l, k1, _⟩ := resLocs_mem h2 p0 hp0
                subst k1
                exact ⟨i, q, hp0, fun _ => rfl, fun h => by cases h⟩
              | false =>
                rw [ho] at hp
                obtain ⟨i, q, r', l, k1, _⟩ := resLocs_mem h2 p hp
                subst k1
                exact ⟨i, q, hp, fun h => (by cases h), fun _ => rfl⟩
            obtain ⟨i, q, hm', t1, t2⟩ := src
            obtain ⟨i', q', r', l, k1, k2, k3, k4, _⟩ := resLocs_mem h2 _ hm'
            injection k1 with k1 k1'; subst k1; subst k1'
            obtain ⟨p', u1, u2, u3, u4⟩ := part _ _ r' l k2 k3 k4
            have : p = p' := by
              cases ho : s.one with
              | true => rw [t1 ho, u1 ho]
              | false => rw [t2 ho, u2 ho]
            subst this
            exact ⟨_, _, r', l, hm', k2, k3, k4, t1, t2, u3, u4⟩
          obtain ⟨i1, q1, r1, l1, a1, a2, a3, a4, a5, a6, a8, a7⟩ := src p hp
          obtain ⟨i2, q2, r2, l2, b1, b2, b3, b4, b5, b6, b8, b7⟩ := src q hq
          rw [a7] at hx'
          rw [b7] at hy'
          rw [a8] at ht1
          rw [b8] at ht2
          have hll := hs.sep l1 l2 g a4 b4 ⟨_, _, ht1, hx', hbx⟩ ⟨_, _, ht2, hy', hby⟩
          subst hll
          have := resLocs_inj h2 i1 q1 r1 l1 i2 q2 r2 a1 b1 a2 b2 a3 b3
          injection this with g1 g2
          cases ho : s.one with
          | true => rw [a5 ho, b5 ho, g2]
          | false => rw [a6 ho, b6 ho, g1, g2]
        · obtain ⟨d, d1, d2⟩ := hrrd hu
          obtain ⟨b, cells, e, z1, z2, z3, z4, _⟩ := hs.rd d d1
          obtain ⟨e1, e2⟩ := cast_some d2
          obtain ⟨dt, dv⟩ := d
          simp only at e1 e2 z4
          subst e1
          exact ⟨b, cells, e, z1, z3, by rw [e2]; exact z4⟩
  refine eval_sound (m := fn.ntmps) hT hG hm hrb (by simp; omega) c _ _ _ _ _ r hdst he _ _ _ _ _ hsim (fun st' hk a' w' lim' β' hs => hend st' hk a' w' lim' β' hs) (fun st' hk a' w' lim' β' hs => hend st' hk a' w' lim' β' hs) (fun i st' hk => by cases hk)

theorem fn_ok (hT : TabOk P tab) (hG : GamOk P G) (hm : P.follows .mixedOrders = true) {f : FuncId} {fn : Func} {c : Code} (hf : P.funcs[f]? = some fn) (hname : (fn.name == "runtime.NumGoroutine") = false) (hb : fn.body = some c)
    (s : Sig) (hop : s.opens = false) (hmu : s.muts = false) (hone : Nat.beq fn.results.toList.length 1 = s.one) {ann : Ann} {fuel : Nat} (hfn : ∀ x rd r, s.fn x rd = some r → evalFn tab G ann fuel fn s.aty s.rdty s.usesRd s.rty s.own x rd = some r) (hfv : s.fv = none := by rfl) : FnOk P f s := by
  refine ⟨fun args w => ?_, fun _ _ _ x rd r hr w lim rb vals hargs hrd => ?_, fun g hg => (by rw [hfv] at hg; cases hg), fun _ h => (by rw [hop] at h; cases h), fun _ h => (by rw [hmu] at h; cases h)⟩
  · have h1 : fn.name ≠ "runtime.NumGoroutine" := by simpa using hname
    simp [callFunc, hf, h1, hb]
  · have he := hfn x rd r hr
    unfold evalFn at he
    rw [hb] at he
    simp only [] at he
    cases hdst : dstsOk fn.ntmps c with
    | false => rw [hdst] at he; cases he
    | true =>
    rw [hdst] at he
    simp only [cnd_true] at he
    exact fn_core hT hG hm hf hb s hone hdst he (rb_lt hrd) (start_sim fn.ntmps hargs hrd)
theorem args_arity {w : World} {lim : Lim} {rb : Option Nat} : ∀ {t : Ty} {x : t.val} {vals : List Value}, ArgsRep w lim rb t x vals → vals.length = arity t
  | .unit, _, [], _ => rfl
  | .unit, _, _ :: _, h => h.elim
  | .prod _ b, x, v :: vs, h => by simp [arity, args_arity (t := b) h.2]
  | .prod _ _, _, [], h => h.elim
  | .int _, _, [], h => h.elim
  | .int _, _, _ :: _, h => h.elim
  | .bool, _, [], h => h.elim
  | .bool, _, _ :: _, h => h.elim
  | .str, _, [], h => h.elim
  | .str, _, _ :: _, h => h.elim
  | .slice _, _, [], h => h.elim
  | .slice _, _, _ :: _, h => h.elim
theorem start_simF {aty : Ty} {w : World} {lim : Lim} {x : aty.val} {vals : List Value} {g : FuncId} (m : Nat) (hargs : ArgsRep w lim none aty x vals) :
    Sim (base0 w) lim none ((vals ++ [Value.func (.func g) #[] #[]]).toArray ++ Array.replicate (m - (vals ++ [Value.func (.func g) #[] #[]]).toArray.size) undef).size (startF aty x g) { tmps := (vals ++ [Value.func (.func g) #[] #[]]).toArray ++ Array.replicate (m - (vals ++ [Value.func (.func g) #[] #[]]).toArray.size) undef, defers := [] } w lim mp0 := by
  obtain ⟨q1, q2, q3, q4⟩ := putArgs_rest (t := aty) (x := x) (i := 0)
  have henv := putArgs_env (i := 0) hargs
  have hlen := args_arity hargs
  have e1 : ∀ t, (startF aty x g).env t = cnd (Nat.beq t (arity aty)) ⟨.fn g, none⟩ ((putArgs aty x 0).env t) := fun t => rfl
  have e2 : ∀ t, (startF aty x g).box t = (putArgs aty x 0).box t := fun t => rfl
  have e3 : ∀ l, (startF aty x g).own l = true → False := fun l hl => by
    cases l with
    | tmp t p =>
      have hl : cnd (Nat.beq t (arity aty)) (inPaths p []) ((putArgs aty x 0).own (.tmp t p)) = true := hl
      cases hq : Nat.beq t (arity aty) with
      | true => rw [hq] at hl; cases hl
      | false => rw [hq] at hl; simp only [cnd_false, q3] at hl; cases hl
    | box b p =>
      have hl : (putArgs aty x 0).own (.box b p) = true := hl
      rw [q3] at hl; cases hl
  refine ⟨rfl, rfl, ⟨rfl, rfl, rfl, Nat.le_refl _, fun _ _ _ _ => rfl⟩, fun _ _ => rfl, fun t => ?_, fun b d hbx => ?_, fun b c d d' hbx => ?_, fun l hl => (e3 l hl).elim, fun l g hl => (e3 l hl).elim, fun l l' g hl => (e3 l hl).elim, fun t l hl => ?_, fun d hd => ?_, ?_⟩
  · rw [e1]
    cases hq : Nat.beq t (arity aty) with
    | true =>
      rw [nbeq hq, ← hlen]
      show tmpOf _ _ = _
      simp only [tmpOf]
      rw [Array.getD_eq_getD_getElem?, Array.getElem?_append_left (by simp)]
      simp
    | false =>
      have hne : t ≠ vals.length := fun e => by rw [e, hlen] at hq; simp at hq
      rcases henv t with h1 | ⟨k, v, h1, h2, h3⟩
      · simp only [cnd_false]; rw [h1]; trivial
      · have hv : tmpOf { tmps := (vals ++ [Value.func (.func g) #[] #[]]).toArray ++ Array.replicate (m - (vals ++ [Value.func (.func g) #[] #[]]).toArray.size) undef, defers := [] } t = v := by
          have hk := (List.getElem?_eq_some_iff.1 h2).1
          have : t = k := h1.trans (Nat.zero_add k)
          subst this
          simp only [tmpOf]
          rw [Array.getD_eq_getD_getElem?, Array.getElem?_append_left (by simp; omega)]
          simp [List.getElem?_append_left hk, h2]
        simp only [cnd_false]
        rw [hv]
        rcases h3 with ⟨b, y, h3, h4⟩ | ⟨h3, g', h4, h5⟩
        · rw [h3]; exact h4
        · cases h4
  · rw [e2, q2] at hbx; cases hbx
  · rw [e2, q2] at hbx; cases hbx
  · rw [e1] at hl
    cases hq : Nat.beq t (arity aty) with
    | true => rw [hq] at hl; cases hl
    | false => rw [hq] at hl; simp only [cnd_false, q1] at hl; cases hl
  · have hd : (putArgs aty x 0).rd = some d := hd
    rw [q4] at hd; cases hd
  · obtain ⟨t1, t2⟩ := putArgs_trees (t := aty) (x := x) (i := 0)
    exact no_trees (fun r => t1 r) (fun b => t2 b)
theorem fnF_ok (hT : TabOk P tab) (hG : GamOk P G) (hm : P.follows .mixedOrders = true) {f : FuncId} {fn : Func} {c : Code} (hf : P.funcs[f]? = some fn) (hname : (fn.name == "runtime.NumGoroutine") = false) (hb : fn.body = some c)
    (aty rty : Ty) (one : Bool) (own : List (List Nat)) (g : FuncId) (q : aty.val → Ty.unit.val → Option (rty.val × Ty.unit.val)) (hone : Nat.beq fn.results.toList.length 1 = one) {ann : Ann} {fuel : Nat}
    (hfn : ∀ x rd r, q x rd = some r → evalFnF tab G ann fuel fn g aty rty own x = some r) :
    FnOk P f { aty := aty, rdty := .unit, usesRd := false, rty := rty, one := one, own := own, opens := false, fv := some g, fn := q } := by
  refine ⟨fun args w => ?_, fun h => (by cases h), fun g' hg' _ _ _ x rd r hr w lim vals hargs => ?_, fun h => (by cases h), fun h => (by cases h)⟩
  · have h1 : fn.name ≠ "runtime.NumGoroutine" := by simpa using hname
    simp [callFunc, hf, h1, hb]
  · injection hg' with hg'; subst hg'
    have he := hfn x rd r hr
    unfold evalFnF at he
    rw [hb] at he
    simp only [] at he
    cases hdst : dstsOk fn.ntmps c with
    | false => rw [hdst] at he; cases he
    | true =>
    rw [hdst] at he
    simp only [cnd_true] at he
    exact fn_core hT hG hm hf hb { aty := aty, rdty := .unit, usesRd := false, rty := rty, one := one, own := own, opens := false, fv := some g, fn := q } hone hdst he (fun k hk => by cases hk) (start_simF fn.ntmps hargs)

end
end Go.Den
