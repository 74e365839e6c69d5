/- Regions that draw their order come to what the evaluator says, on every tape. -/
import Derived.Test.YtjkfpbfimcpoeaaGreatDoorEngB
import Derived.Orders
section
set_option linter.unusedVariables false
set_option linter.unusedSimpArgs false
namespace Go.Eng
variable {R : Type} {P : Program} {X : Ctx} {E : Env} {ok : Nat → Prop} {st : St} {a : Act} {w : World} {r : R} {o : Oper} {K : PV → St → Option R}

theorem inOf_sound {base : Nat} (hbase : X.w0.heap.size ≤ base) : ∀ {rs : List RA} {vs : List Value} {seen : List Nat} {n : Nat} {xs : List PA} {st st3 : St} {E : Env}, Inv X E ok st a w → inOf st n rs = some (xs, st3) → RsRel w ok base seen rs vs →
    (∀ b cs k, st.bx[b]? = some (some cs) → E.foot b k → k < base) → (∀ i A g o c e, st.ar[i]? = some (some A) → E.ar i = some (g, o, c, e) → g < base ∨ g ∈ seen) →
    ∃ E3, Inv X E3 ok st3 a w ∧ Ext w E ok st w E3 ok st3 ∧ xs.length = vs.length ∧ ∀ (j : Nat) (x : PA) (v : Value), xs[j]? = some x → vs[j]? = some v → RelA w E3 ok st3 x v
  | [], vs, seen, n, xs, st, st3, E, hI, h, hr, hb, ha => by
    simp only [inOf, Option.some.injEq, Prod.mk.injEq] at h
    obtain ⟨rfl, rfl⟩ := h
    cases vs with
    | nil => exact ⟨E, hI, Ext.refl, rfl, by simp⟩
    | cons _ _ => cases hr
  | .v x :: rs, vs, seen, n, xs, st, st3, E, hI, h, hr, hb, ha => by
    cases vs with
    | nil => cases hr
    | cons v vs =>
      simp only [inOf] at h
      split at h
      · rename_i l st1 h1
        simp only [Option.some.injEq, Prod.mk.injEq] at h
        obtain ⟨rfl, rfl⟩ := h
        obtain ⟨E3, i3, x3, l3, r3⟩ := inOf_sound hbase hI h1 hr.2 hb ha
        refine ⟨E3, i3, x3, by simp [l3], fun j y u hj hu => ?_⟩
        cases j with
        | zero =>
          simp only [List.getElem?_cons_zero, Option.some.injEq] at hj hu
          subst hj; subst hu
          exact RelA.plain hr.1.1 hr.1.2 (fun b hb => ⟨hb, rfl⟩)
        | succ j => exact r3 j y u hj hu
      · cases h
  | .fresh k l :: rs, vs, seen, n, xs, st, st3, E, hI, h, hr, hb, ha => by
    cases vs with
    | nil => cases hr
    | cons v vs =>
      simp only [inOf] at h
      split at h
      · rename_i st0 h0
        obtain ⟨hn, rfl⟩ := newAr_some h0
        split at h
        · rename_i xs' st1 h1
          simp only [Option.some.injEq, Prod.mk.injEq] at h
          obtain ⟨rfl, rfl⟩ := h
          obtain ⟨p, k1, k2, k3, k4⟩ := hr
          obtain ⟨i1, x1⟩ := hI.addAr hn k2 (by
            cases p with
            | none => trivial
            | some q =>
              obtain ⟨g, o, c, e⟩ := q
              obtain ⟨n1, n2, n3⟩ := k3 g o c e rfl
              refine ⟨n2, by omega, fun b cs hbx hf => by have := hb b cs g hbx hf; omega, fun j A g' r hA hg => ?_⟩
              obtain ⟨o', c', e'⟩ := r
              rintro rfl
              rcases ha j A g o' c' e' hA hg with h | h
              · omega
              · exact n3 h)
          have hrel := relC_own (w := w) (E := E) (ok := ok) (c := k) (l := l) (p := p) (get_lt hn)
          obtain ⟨E3, i3, x3, l3, r3⟩ := inOf_sound hbase i1 h1 k4 hb (fun i A g o c e hA hg => by
            rcases set_some hA (get_lt hn) with ⟨rfl, rfl⟩ | ⟨hne, hA⟩
            · simp only [Env.setAr, if_true] at hg
              exact .inr (List.mem_append.2 (.inl (by rw [hg]; simp)))
            · simp only [Env.setAr, if_neg (Ne.symm hne)] at hg
              rcases ha i A g o c e hA hg with h | h
              · exact .inl h
              · exact .inr (List.mem_append.2 (.inr h)))
          refine ⟨E3, i3, x1.trans x3, by simp [l3], fun j y u hj hu => ?_⟩
          cases j with
          | zero =>
            simp only [List.getElem?_cons_zero, Option.some.injEq] at hj hu
            subst hj; subst hu
            have : RelC w (E.setAr n p) ok (st.setAr n ⟨k, l, 0, false, false⟩) (.own n 0) v := by
              rw [k1]
              revert hrel
              cases p <;> exact id
            exact RelC.ext x3 this
          | succ j => exact r3 j y u hj hu
        · cases h
      · cases h
/-- Behind a call, in the caller's memory. -/
theorem Inv.called {lent : List Nat} {xs : List Operand} {Ls : List (SL × Place)} {st2 : St} {w' : World} {ok0 ok' : Nat → Prop} {res : Res} {v : Value}
    (hI : Inv X E ok st a w) (hl : Links st E lent 0 xs Ls) (hn : (lentIx lent st 0 xs).Nodup) (hb : backOf lent st 0 xs res.mu = some st2) (hp : CallPost w ok0 Ls res ok' v w') :
    Inv X E ok st2 a w' ∧ Ext w E ok st w' E ok st2 ∧ st2.bx = st.bx ∧ ∀ (i : Nat) (A : AR), st2.ar[i]? = some (some A) → ∃ A', st.ar[i]? = some (some A') := by
  obtain ⟨q1, q2, q3, q4, q5⟩ := backOf_sound hb hl hp.mu.2 hn (fun i _ A hA => hI.ar i A hA)
  obtain ⟨m1, m2⟩ := hl.ix
  obtain ⟨i1, x1⟩ := hI.redo (w' := w') (st' := st2) (fun i => i ∈ lentIx lent st 0 xs) q1 q2 q3 hp.size hp.os hp.tape hp.output
    (fun b hb hno => hp.frame b hb (fun s o c e hm => by
      obtain ⟨j, hj⟩ := List.getElem?_of_mem hm
      obtain ⟨i, k1, A, k2, k3, k4⟩ := m2 j s _ hj
      obtain ⟨o', c', k5⟩ := k4 b o c e rfl
      exact hno i A o' c' e (List.mem_of_getElem? k1) k2 k5))
    q4
    (fun i A hT hA => by
      obtain ⟨B, b1, b2, l', b3, b4⟩ := q5 i hT
      rw [hA] at b1; injection b1 with b1; injection b1 with b1; subst b1
      exact ⟨b2, l', b3, b4.1, b4.2⟩)
    (fun i hT => by
      obtain ⟨B, b1, _⟩ := q5 i hT
      exact ⟨B, b1⟩)
  refine ⟨i1, x1, q2, fun i A hA => ?_⟩
  by_cases hT : i ∈ lentIx lent st 0 xs
  · obtain ⟨B, b1, _⟩ := q5 i hT
    exact ⟨B, b1⟩
  · exact ⟨A, (q4 i hT) ▸ hA⟩
theorem RelCs.pinned : ∀ {cs : List (Option Cd)} {ps : List PC} {vs : List Value}, RelCs w E ok st ps vs → RelCs w E ok st (pinP cs ps) vs ∧ (ps.all plainC = true → (pinP cs ps).all plainC = true)
  | [], ps, vs, h => by cases ps <;> exact ⟨h, id⟩
  | c :: cs, [], vs, h => by cases c <;> exact ⟨h, id⟩
  | c :: cs, p :: ps, [], h => by have := h.1; simp at this
  | c :: cs, p :: ps, v :: vs, h => by
    have ht : RelCs w E ok st ps vs := ⟨by have := h.1; simpa using this, fun j q u hj hu => h.2 (j + 1) q u hj hu⟩
    obtain ⟨h1, h2⟩ := RelCs.pinned (cs := cs) ht
    have h0 := h.2 0 p v rfl rfl
    have key : ∀ q, RelC w E ok st q v → (plainC p = true → plainC q = true) → RelCs w E ok st (q :: pinP cs ps) (v :: vs) ∧ ((p :: ps).all plainC = true → (q :: pinP cs ps).all plainC = true) := fun q hq hpq => by
      refine ⟨⟨by simp [h1.1], fun j x u hj hu => ?_⟩, fun hall => ?_⟩
      · cases j with
        | zero =>
          simp only [List.getElem?_cons_zero, Option.some.injEq] at hj hu
          subst hj; subst hu; exact hq
        | succ j => exact h1.2 j x u hj hu
      · simp only [List.all_cons, Bool.and_eq_true] at hall ⊢
        exact ⟨hpq hall.1, h2 hall.2⟩
    unfold pinP
    split
    · rename_i c' ps' e1 e2
      injection e1 with e1 e1'
      injection e2 with e2 e2'
      subst e1; subst e1'; subst e2; subst e2'
      exact key _ ⟨none, 0, h0, Nat.le_refl _, fun hn => absurd rfl hn⟩ (fun _ => rfl)
    · rename_i e1 e2
      injection e1 with e1 e1'
      injection e2 with e2 e2'
      subst e1'; subst e2; subst e2'
      exact key _ h0 id
    · rename_i e1; cases e1
    · rename_i e1; cases e1
theorem PlainA.pinned {cs : List (Option Cd)} {x : PA} {v : Value} (h : PlainA w ok x v) : ∃ y, pinA cs (.v x) = .v y ∧ PlainA w ok y v := by
  cases x with
  | c p =>
    unfold pinA
    simp only
    split
    · exact ⟨_, rfl, ⟨none, 0, h.1, Nat.le_refl _, fun hn => absurd rfl hn⟩, rfl⟩
    · exact ⟨_, rfl, h⟩
  | agg ps =>
    obtain ⟨⟨vs, h1, h2⟩, h3⟩ := h
    obtain ⟨k1, k2⟩ := h2.pinned (cs := cs)
    exact ⟨_, rfl, ⟨vs, h1, k1⟩, k2 h3⟩
theorem ArgRel.pinned : ∀ {pin : List (List (Option Cd))} {as : List AA} {vs : List Value} {Ls : List (SL × Place)}, ArgRel w ok as vs Ls → ArgRel w ok (pinAs pin as) vs Ls
  | [], as, vs, Ls, h => by cases as <;> exact h
  | cs :: pin, [], vs, Ls, h => h
  | cs :: pin, .v x :: as, [], Ls, h => by cases h
  | cs :: pin, .lent s :: as, [], Ls, h => by cases h
  | cs :: pin, .v x :: as, v :: vs, Ls, h => by
    obtain ⟨y, h1, h2⟩ := h.1.pinned (cs := cs)
    have e : pinAs (cs :: pin) (.v x :: as) = .v y :: pinAs pin as := by rw [← h1]; rfl
    rw [e]
    exact ⟨h2, h.2.pinned⟩
  | cs :: pin, .lent s :: as, v :: vs, Ls, h => by
    obtain ⟨p, Ls', h1, h2, h3, h4, h5⟩ := h
    exact ⟨p, Ls', h1, h2, h3, h4, h5.pinned⟩
theorem s_call {sg : FuncId → Option Sh} {ih : FuncId → List AA → Option Res} (hob : ObsOk P sg) (hih : ∀ g as res, ih g as = some res → CallOk P g as res) {c : Call} {slot : Nat} {g : FuncId} (hI : Inv X E ok st a w) (ho : o.op = .call c) (hc : c.callee = .value (.func g))
    (h : callK sg ih slot g c.args.toList st K = some r) : OpSound P X E ok o st a w K r := by
  unfold callK at h
  split at h
  · cases h
  · rename_i sh hsh
    split at h
    · rename_i f hf
      exact s_obj (hob g sh f hsh hf) hI ho hc h
    split at h
    · cases h
    · rename_i as st0 has
      split at h
      · rename_i hcond
        simp only [Bool.and_eq_true, Bool.or_eq_true] at hcond
        obtain ⟨hlo, hks⟩ := hcond
        rw [lentPosK_eq] at h
        by_cases hlpos : lentPos sh.lent st 0 c.args.toList = true
        rotate_left
        · rw [if_neg hlpos] at h; cases h
        rw [if_pos hlpos] at h
        obtain ⟨ok0, i0, m0, f0, Ls, l0, g0⟩ := argsOf_sound hI has hlpos
        obtain ⟨hnd, hfz⟩ := lentOk_some hlo
        obtain ⟨x1, x2⟩ := l0.ix
        have hno : ∀ s b o c e, (s, some (b, o, c, e)) ∈ Ls → ¬ ok0 b := fun s b o c e hm hk => by
          obtain ⟨j, hj⟩ := List.getElem?_of_mem hm
          obtain ⟨i, k1, A, k2, k3, k4⟩ := x2 j s _ hj
          obtain ⟨o', c', k5⟩ := k4 b o c e rfl
          obtain ⟨B, b1, b2⟩ := hfz i (List.mem_of_getElem? k1)
          have := (i0.arok i B b o' c' e b1 k5).1 hk
          rw [b2] at this; cases this
        have hpre : CallPre w ok0 (pinAs sh.pin as) (c.args.toList.map a.eval) Ls := by
          refine ⟨(g0 hno).pinned, fun j j' s s' b o c e o' c' e' hj hj' => ?_, i0.oklt⟩
          obtain ⟨i, k1, A, k2, k3, k4⟩ := x2 j s _ hj
          obtain ⟨i', k1', A', k2', k3', k4'⟩ := x2 j' s' _ hj'
          obtain ⟨p, q, k5⟩ := k4 b o c e rfl
          obtain ⟨p', q', k5'⟩ := k4' b o' c' e' rfl
          have hii := hI.arne i i' A A' b p q e b p' q' e' k2 k2' k5 k5' rfl
          subst hii
          exact (List.getElem?_inj (get_lt k1) hnd).1 (k1.trans k1'.symm)
        cases hres : ih g (pinAs sh.pin as) with
        | none => rw [hres] at h; cases h
        | some res =>
          rw [hres] at h
          have hdoes := hih g _ res hres w ok0 _ Ls hpre
          simp only [callT] at h
          split at h
          · rename_i x hdec
            obtain ⟨y, y1, y2, y3⟩ := shDec_some hdec
            rw [y3] at h
            split at h
            · cases h
            · rename_i st2 hb
              split at h
              · rename_i vs st3 hin
                rw [y2] at hin
                refine ⟨resV vs, st3, h, ?_⟩
                have fin : ∀ v w', (∃ ok', CallPost w ok0 Ls res ok' v w') → OpTo X st3 (resV vs) a v w' := by
                  rintro v w' ⟨ok', hp⟩
                  obtain ⟨us, rfl, hrs⟩ := hp.rs
                  obtain ⟨ok2, z1, z2, z3⟩ := hrs.dec y1
                  by_cases hk : sh.keeps = true
                  · rw [if_pos hk] at hb
                    have hl1 : Links st0 E sh.lent 0 c.args.toList Ls ∧ lentIx sh.lent st0 0 c.args.toList = lentIx sh.lent st 0 c.args.toList :=
                      l0.congr (fun x => f0.op x) (fun i hi => by
                        obtain ⟨B, b1, b2⟩ := hfz i hi
                        rw [b1, f0.back b1 b2])
                    obtain ⟨i1, e1, e2, e3⟩ := i0.called hl1.1 (by rw [hl1.2]; exact hnd) hb hp
                    have hlow : ∀ b, ok2 b → ok0 b ∨ w.heap.size ≤ b := fun b hb => by
                      rcases z2 b hb with h | ⟨h, _⟩
                      · exact hp.okold b h
                      · exact .inr h
                    have bxlt : ∀ b cs k, st2.bx[b]? = some (some cs) → E.foot b k → k < w.heap.size := fun b cs k hb hk => i0.foot_lt (e2 ▸ hb) hk
                    have arlt : ∀ i A g o c e, st2.ar[i]? = some (some A) → E.ar i = some (g, o, c, e) → g < w.heap.size := fun i A g o c e hA he => by
                      obtain ⟨B, hB⟩ := e3 i A hA
                      have := i0.ar i B hB
                      rw [he] at this
                      exact this.lt
                    obtain ⟨i2, e4⟩ := i1.okMore (ok' := fun b => ok0 b ∨ ok2 b) (fun b hb => .inl hb)
                      (fun b hb => by
                        rcases hb with hb | hb
                        · exact i1.oklt b hb
                        · rcases z2 b hb with h | ⟨_, h, _⟩
                          · exact hp.oklt b h
                          · exact h)
                      (fun b hb => by
                        rcases hb with hb | hb
                        · exact i0.okold b hb
                        · rcases hlow b hb with h | h
                          · exact i0.okold b h
                          · exact .inr (Nat.le_trans i0.size h))
                      (fun b cs k hbx hk hb => by
                        have hlt := bxlt b cs k hbx hk
                        rcases hb with hb | hb
                        · exact (i1.bxok b cs k hbx hk).1 hb
                        · rcases hlow _ hb with h | h
                          · exact (i1.bxok b cs k hbx hk).1 h
                          · omega)
                      (fun i A g o c e hA he hb => by
                        have hlt := arlt i A g o c e hA he
                        rcases hb with hb | hb
                        · exact hb
                        · rcases hlow _ hb with h | h
                          · exact h
                          · omega)
                    have hrs3 : RsRel w' (fun b => ok0 b ∨ ok2 b) w.heap.size [] (raEnc sh.rs y) us := by
                      have aux : ∀ {rs : List RA} {vs : List Value} {seen : List Nat}, RsRel w' ok2 w.heap.size seen rs vs → RsRel w' (fun b => ok0 b ∨ ok2 b) w.heap.size seen rs vs := by
                        intro rs
                        induction rs with
                        | nil => intro vs seen h; cases vs <;> exact h
                        | cons r rs ih =>
                          intro vs seen h
                          cases vs with
                          | nil => cases r <;> cases h
                          | cons v vs =>
                            cases r with
                            | v x => exact ⟨h.1.mono (fun b hb => .inr hb), ih h.2⟩
                            | fresh k l =>
                              obtain ⟨p, k1, k2, k3, k4⟩ := h
                              refine ⟨p, k1, k2, fun g o c e hp => ?_, ih k4⟩
                              obtain ⟨n1, n2, n3⟩ := k3 g o c e hp
                              refine ⟨n1, fun hg => ?_, n3⟩
                              rcases hg with hg | hg
                              · have := i0.oklt g hg; omega
                              · exact n2 hg
                      exact aux z3
                    obtain ⟨E3, i3, e5, e6, e7⟩ := inOf_sound i0.size i2 hin hrs3 bxlt (fun i A g o c e hA he => .inl (arlt i A g o c e hA he))
                    exact ⟨E3, _, i3, relV_res e6 e7⟩
                  · rw [if_neg hk] at hb
                    have hks' : noSl sh.rs = true := hks.resolve_left hk
                    obtain ⟨i1, e1, e2, e3⟩ := hI.called l0 hnd hb hp
                    have bxlt : ∀ b cs k, st2.bx[b]? = some (some cs) → E.foot b k → k < w.heap.size := fun b cs k hb hk => hI.foot_lt (e2 ▸ hb) hk
                    have arlt : ∀ i A g o c e, st2.ar[i]? = some (some A) → E.ar i = some (g, o, c, e) → g < w.heap.size := fun i A g o c e hA he => by
                      obtain ⟨B, hB⟩ := e3 i A hA
                      have := hI.ar i B hB
                      rw [he] at this
                      exact this.lt
                    obtain ⟨E3, i3, e5, e6, e7⟩ := inOf_sound hI.size i1 hin (RsRel.nosl hI.oklt hks' z3) bxlt (fun i A g o c e hA he => .inl (arlt i A g o c e hA he))
                    exact ⟨E3, _, i3, relV_res e6 e7⟩
                intro next Q hnext
                have hrun : (execOp a.eval o).run P w = (callFunc g (c.args.toList.map a.eval).toArray).run P w := by
                  have e1 : c.args.map a.eval = (c.args.toList.map a.eval).toArray := by rw [← Array.toList_map]
                  simp only [execOp, ho, resolve, invoke, hc, Act.eval, Deferred.ofValue, Sem.run_bind, Sem.run_pure, Result.andThen_ok, e1, Array.append_empty, Array.empty_append]
                unfold Oper.wp
                rw [hrun]
                unfold Does at hdoes
                split at hdoes
                · rename_i v w' heq
                  rw [heq]
                  exact hnext v w' (fin v w' hdoes)
                · rename_i g' args w1 heq
                  rw [heq]
                  refine Calls.mono hdoes (fun e w'' he => ?_)
                  cases e with
                  | returned v => exact hnext v w'' (fin v w'' he)
                  | panicked ch => cases he
                  | outgrown => cases he
                · cases hdoes
              · cases h
          · cases h
      · cases h
end Go.Eng
end
section
set_option linter.unusedVariables false
set_option linter.unusedSimpArgs false
namespace Go.Eng
variable {R : Type} {P : Program} {X : Ctx} {E : Env} {ok : Nat → Prop} {st : St} {a : Act} {w : World} {r : R} {o : Oper} {K : PV → St → Option R}

theorem opK_sound {sg : FuncId → Option Sh} {ih : FuncId → List AA → Option Res} (hih : ObsOk P sg ∧ ∀ g as res, ih g as = some res → CallOk P g as res) {slot : Nat} (hI : Inv X E ok st a w)
    (h : opK P sg ih slot o st K = some r) : OpSound P X E ok o st a w K r := by
  unfold opK at h
  split at h
  · rename_i x ho; exact s_move hI ho h
  · rename_i x ho; exact s_assign hI ho h
  · rename_i c x y ho; exact s_pick hI ho h
  · rename_i t ho; exact s_alloc hI ho h
  · rename_i t x ho; exact s_box hI ho h
  · rename_i t parts ho; exact s_build hI ho h
  · rename_i t len parts ho; exact s_buildSlice hI ho h
  · rename_i t x ho; exact s_load hI ho h
  · rename_i t x y ho; exact s_store hI ho h
  · rename_i x ho; exact s_nilCheck hI ho h
  · rename_i op t x y t' ho; exact s_binOp hI ho h
  · rename_i op t x ho; exact s_unOp hI ho h
  · rename_i s t x ho; exact s_convert hI ho h
  · rename_i t n m ho; exact s_makeSlice hI ho h
  · rename_i t x lo hi mx ho; exact s_slice hI ho h
  · rename_i s x f ho; exact s_fieldAddr hI ho h
  · rename_i t x f ho; exact s_field hI ho h
  · rename_i t x i ho; exact s_indexAddr hI ho h
  · rename_i t x i ho; exact s_index hI ho h
  · rename_i t x ho; exact s_range hI ho h
  · rename_i x ho; exact s_next hI ho h
  · rename_i x i ho; exact s_extract hI ho h
  · rename_i c ho
    split at h
    · rename_i g hc; exact s_call hih.1 hih.2 hI ho hc h
    · rename_i hc; exact s_len hI ho hc h
    · rename_i hc; exact s_max hI ho hc h
    · rename_i hc; exact s_min hI ho hc h
    · rename_i hc; exact s_append hI ho hc h
    · cases h
  · cases h
end Go.Eng
end
section
set_option linter.unusedVariables false
set_option linter.unusedSimpArgs false
namespace Go.Eng
variable {R : Type} {P : Program} {X : Ctx} {E : Env} {ok : Nat → Prop} {st : St} {a : Act} {w : World} {r : R}

theorem app_none {α : Type} {l : List (Option α)} {n i : Nat} {x : α} (h : (l ++ List.replicate n none)[i]? = some (some x)) : l[i]? = some (some x) := by
  rw [List.getElem?_append] at h
  split at h
  · exact h
  · rw [List.getElem?_replicate] at h
    split at h
    · cases h
    · cases h
theorem app_some {α : Type} {l : List (Option α)} {n i : Nat} {x : α} (h : l[i]? = some (some x)) : (l ++ List.replicate n none)[i]? = some (some x) := by
  rw [List.getElem?_append_left (get_lt h)]; exact h
theorem Inv.grow (hI : Inv X E ok st a w) (n : Nat) : Inv X E ok (st.grow n) a w := by
  have hx : Ext w E ok st w E ok (st.grow n) := ⟨fun _ _ => rfl, fun _ h => h, fun b cs h => ⟨⟨cs, app_some h⟩, rfl⟩, fun i A h => ⟨A, app_some h, Nat.le_refl _, fun _ => ⟨rfl, rfl, rfl⟩⟩⟩
  exact { hI with
    len := hI.len
    tm := fun t p v hp hv => (hI.tm t p v hp hv).ext hx
    bx := fun b cs hb => (hI.bx b cs (app_none hb)).ext (fun _ _ => rfl) hx
    ar := fun i A h => hI.ar i A (app_none h)
    arlen := by simp [St.grow, hI.arlen, Nat.mul_add]
    bxne := fun b b' cs cs' k h h' he he' => hI.bxne b b' cs cs' k (app_none h) (app_none h') he he'
    bxok := fun b cs k h hk => hI.bxok b cs k (app_none h) hk
    arne := fun i i' A A' g o c e g' o' c' e' h h' => hI.arne i i' A A' g o c e g' o' c' e' (app_none h) (app_none h')
    arbx := fun i A b cs g o c e h h' => hI.arbx i A b cs g o c e (app_none h) (app_none h')
    arok := fun i A g o c e h => hI.arok i A g o c e (app_none h)
    arnew := fun i A g o c e h => hI.arnew i A g o c e (app_none h)
    lentat := fun j s p hj => by
      obtain ⟨A, k1, k2⟩ := hI.lentat j s p hj
      exact ⟨A, app_some k1, k2⟩ }
theorem wpList_yes {ops : Array Oper} {Q : Exit → Act → World → Prop} {o : Oper} {l : List Oper} (hw : Region.wanted o (yielded ops a.tmps) = true) (h : o.wp P a w (wpList P ops Q l) Q) : wpList P ops Q (o :: l) a w := by
  unfold wpList
  rw [if_pos hw]
  exact .inl h
theorem wpList_no {ops : Array Oper} {Q : Exit → Act → World → Prop} {o : Oper} {l : List Oper} (hw : Region.wanted o (yielded ops a.tmps) = false) (h : wpList P ops Q l (a.put o.dst undef) w) : wpList P ops Q (o :: l) a w := by
  unfold wpList
  rw [if_neg (by rw [hw]; simp)]
  exact h
/-- The operations of a region, in turn. -/
theorem regK_sound {sg : FuncId → Option Sh} {ih : FuncId → List AA → Option Res} (hih : ObsOk P sg ∧ ∀ g as res, ih g as = some res → CallOk P g as res) {ops : Array Oper} {Q : Exit → Act → World → Prop} {K : St → Option R}
    (hQ : ∀ st a w, (∃ E ok, Inv X E ok st a w) → K st = some r → Q .normal a w) : ∀ {l : List Oper} {slot : Nat} {st : St} {E : Env} {ok : Nat → Prop} {a : Act} {w : World}, Inv X E ok st a w → regK P sg ih ops.toList slot l st K = some r → wpList P ops Q l a w
  | [], slot, st, E, ok, a, w, hI, h => hQ st a w ⟨E, ok, hI⟩ h
  | o :: l, slot, st, E, ok, a, w, hI, h => by
    have yes : ∀ {st : St}, Inv X E ok st a w → (opK P sg ih slot o st fun v st1 => regK P sg ih ops.toList (slot + 1) l (st1.put o.dst v) K) = some r → o.wp P a w (wpList P ops Q l) Q := by
      intro st hI h
      obtain ⟨v, st1, h1, h2⟩ := opK_sound hih hI h
      exact h2 _ _ (fun v' w' ⟨E', ok', i1, r1⟩ => regK_sound hih hQ (i1.put r1 o.dst) h1)
    have no : ∀ {st : St}, Inv X E ok st a w → regK P sg ih ops.toList (slot + 1) l (st.put o.dst (.tup [])) K = some r → wpList P ops Q l (a.put o.dst undef) w := by
      intro st hI h
      exact regK_sound hih hQ (hI.put (v := .tup []) (v' := undef) ⟨[], rfl, rfl, by simp⟩ o.dst) h
    unfold regK wantedK at h
    split at h
    · rename_i hg
      exact wpList_yes (by simp [Region.wanted, hg]) (yes hI h)
    · rename_i j want hg
      split at h
      · rename_i oj hj
        have hj' : ops[j]? = some oj := by rw [← Array.getElem?_toList]; exact hj
        split at h
        · rename_i d hd
          have hy : yielded ops a.tmps j = match a.tmps[d]? with | some (.bool b) => some b | _ => none := by
            unfold yielded
            rw [hj', Option.bind_some, hd, Option.bind_some]
            rfl
          split at h
          · rename_i b hb
            have hv := hI.get d
            rw [hb] at hv
            have hv : a.tmps.getD d undef = .bool b := hv
            have hv2 : a.tmps[d]? = some (.bool b) := by
              rw [Array.getD_eq_getD_getElem?] at hv
              cases hq : a.tmps[d]? with
              | none => rw [hq] at hv; cases hv
              | some u => rw [hq] at hv; simp only [Option.getD_some] at hv; rw [hv]
            rw [hv2] at hy
            dsimp only at hy
            have hput : ∀ c : Bool, b = c → Inv X E ok (st.put (some d) (.one (.bool c))) a w := fun c hc => by
              have := hI.know (c := .tmp d) (b := c) (by rw [← hc]; exact hv)
              exact this
            split at h
            · rename_i hbw
              exact wpList_yes (by simp [Region.wanted, hg, hy, hbw]) (yes (hput want hbw) h)
            · rename_i hbw
              exact wpList_no (by simp [Region.wanted, hg, hy, hbw]) (no (hput (!want) (by cases b <;> cases want <;> simp_all)) h)
          · rename_i xs hb
            have hv := hI.get d
            rw [hb] at hv
            obtain ⟨vs, hv, _⟩ := hv
            have hv2 : (match a.tmps[d]? with | some (.bool b) => some b | _ => none) = none := by
              rw [Array.getD_eq_getD_getElem?] at hv
              cases hq : a.tmps[d]? with
              | none => rfl
              | some u => rw [hq] at hv; simp only [Option.getD_some] at hv; rw [hv]
            rw [hv2] at hy
            exact wpList_no (by simp [Region.wanted, hg, hy]) (no hI h)
          · cases h
        · rename_i hd
          have hy : yielded ops a.tmps j = none := by
            unfold yielded
            rw [hj', Option.bind_some, hd]
            rfl
          exact wpList_no (by simp [Region.wanted, hg, hy]) (no hI h)
      · rename_i hj
        have hj' : ops[j]? = none := by rw [← Array.getElem?_toList]; exact hj
        have hy : yielded ops a.tmps j = none := by
          unfold yielded
          rw [hj']
          rfl
        exact wpList_no (by simp [Region.wanted, hg, hy]) (no hI h)
end Go.Eng
end
section
set_option linter.unusedVariables false
set_option linter.unusedSimpArgs false
namespace Go.Eng
variable {R : Type} {P : Program} {X : Ctx} {E : Env} {ok : Nat → Prop} {st : St} {a : Act} {w : World} {r : R}

theorem frzRows_sound : ∀ {l : List Nat} {st : St} {ok : Nat → Prop}, Inv X E ok st a w → ∃ ok', Inv X E ok' (frzRows l st) a w ∧ (frzRows l st).bx = st.bx ∧ (frzRows l st).ar.length = st.ar.length ∧ (frzRows l st).tm = st.tm
  | [], st, ok, hI => ⟨ok, hI, rfl, rfl, rfl⟩
  | i :: l, st, ok, hI => by
    unfold frzRows
    rw [List.getD_eq_getElem?_getD]
    cases h1 : st.ar[i]? with
    | none => exact frzRows_sound hI
    | some z =>
      cases z with
      | none => exact frzRows_sound hI
      | some A =>
        simp only [Option.getD_some]
        split
        · exact frzRows_sound hI
        · rename_i hlt
          obtain ⟨ok1, i1, _, _⟩ := hI.frz h1 (by simpa using hlt)
          obtain ⟨ok2, i2, e1, e2, e3⟩ := frzRows_sound i1
          exact ⟨ok2, i2, e1, e2.trans (by simp [St.setAr]), e3⟩
theorem arL_get : ∀ (l : List (Option AR)) (i : Nat), (arL l)[i]? = (l[i]?).map (Option.map fun A => { A with ver := 0 })
  | [], i => by simp [arL]
  | none :: l, 0 => by simp [arL]
  | some A :: l, 0 => by simp [arL]
  | none :: l, i + 1 => by simpa [arL] using arL_get l i
  | some A :: l, i + 1 => by simpa [arL] using arL_get l i
theorem bxL_get (H : List (Nat × Md)) : ∀ (l : List (Option (List PC))) (k i : Nat), (bxL H k l)[i]? = (l[i]?).map (Option.map (bxK (mdOf H (bxH + (k + i)))))
  | [], k, i => by simp [bxL]
  | none :: l, k, 0 => by simp [bxL]
  | some A :: l, k, 0 => by simp only [bxL, List.getElem?_cons_zero, Option.map_some, Nat.add_zero]
  | none :: l, k, i + 1 => by
    simp only [bxL, List.getElem?_cons_succ]
    rw [bxL_get H l (k + 1) i, show k + 1 + i = k + (i + 1) by omega]
  | some A :: l, k, i + 1 => by
    simp only [bxL, List.getElem?_cons_succ]
    rw [bxL_get H l (k + 1) i, show k + 1 + i = k + (i + 1) by omega]
theorem keepL_get (H : List (Nat × Md)) (st : St) (na : Nat) : ∀ (l : List PV) (k t : Nat), (keepL H st na k l)[t]? = (l[t]?).map fun v => match mdOf H (k + t) with | some m => keepV st na m v | none => .one .unk
  | [], k, t => by simp [keepL]
  | v :: l, k, 0 => by
    simp only [keepL, List.getElem?_cons_zero, Option.map_some, Nat.add_zero]
    rfl
  | v :: l, k, t + 1 => by
    rw [keepL, List.getElem?_cons_succ, keepL_get H st na l (k + 1) t, List.getElem?_cons_succ]
    rw [show k + 1 + t = k + (t + 1) by omega]
theorem plainOr_sound {E' : Env} {st' : St} {p : PC} {v : Value} (h : RelC w E ok st p v) : RelC w E' ok st' (plainOr p) v := by
  unfold plainOr
  split
  · rename_i hp
    exact h.plain hp (fun b hb => ⟨hb, rfl⟩)
  · trivial
theorem plainOrs_sound {E' : Env} {st' : St} {ps : List PC} {vs : List Value} (h : RelCs w E ok st ps vs) : RelCs w E' ok st' (ps.map plainOr) vs := by
  refine ⟨by simp [h.1], fun j p v hp hv => ?_⟩
  simp only [List.getElem?_map, Option.map_eq_some_iff] at hp
  obtain ⟨q, hq, rfl⟩ := hp
  exact plainOr_sound (h.2 j q v hq hv)
theorem nilP_sound {E' : Env} {st' : St} {p : PC} {v : Value} {c : Cd} (h : RelC w E' ok st' p v) : RelC w E' ok st' (nilP c p) v := by
  unfold nilP
  split
  · exact ⟨none, 0, h, Nat.le_refl _, fun hn => absurd rfl hn⟩
  · exact h
theorem nilPs_sound {E' : Env} {st' : St} {ps : List PC} {vs : List Value} {c : Cd} (h : RelCs w E ok st ps vs) : RelCs w E' ok st' (ps.map fun p => nilP c (plainOr p)) vs := by
  refine ⟨by simp [h.1], fun j p v hp hv => ?_⟩
  simp only [List.getElem?_map, Option.map_eq_some_iff] at hp
  obtain ⟨q, hq, rfl⟩ := hp
  exact nilP_sound (plainOr_sound (h.2 j q v hq hv))
theorem bxK_sound {E' : Env} {st' : St} {m : Option Md} {cs : List PC} {g : Nat} {fs : List Nat} (h : BoxAt w E ok st cs g fs) : BoxAt w E' ok st' (bxK m cs) g fs := by
  unfold bxK
  split
  · rename_i o ho
    unfold BoxAt at h ⊢
    rw [ho] at h ⊢
    exact h
  · rename_i ho
    obtain ⟨h0, vs, ty, k1, k2⟩ := h.plain ho
    rw [h0]
    split
    · exact BoxAt.of k1 (nilPs_sound k2)
    · exact BoxAt.of k1 (plainOrs_sound k2)
theorem keepV_sound (hI : Inv X E ok st a w) {st' : St} {nb : Nat} (har : ∀ i A, i < 2 * nb → st.ar[i]? = some (some A) → st'.ar[i]? = some (some { A with ver := 0 }))
    (hbx : ∀ b cs, b < nb → st.bx[b]? = some (some cs) → ∃ cs', st'.bx[b]? = some (some cs')) {m : Md} {v : PV} {u : Value} (h : RelV w E ok st v u) : RelV w E ok st' (keepV st (2 * nb) m v) u := by
  have own : ∀ {i ver A}, st.arr? i ver = some A → i < 2 * nb → RelC w E ok st (.own i ver) u → RelC w E ok st' (.own i 0) u := by
    intro i ver A hA hi hr
    obtain ⟨hA, hver⟩ := arr?_some hA
    obtain ⟨A', k1, _, k2⟩ := hr
    rw [hA] at k1; injection k1 with k1; injection k1 with k1; subst k1
    exact ⟨_, har i A hi hA, Nat.le_refl _, fun _ => k2 hver⟩
  have view : ∀ {i ver off len A}, st.arr? i ver = some A → i < 2 * nb → RelC w E ok st (.view i ver off len) u → RelC w E ok st' (.view i 0 off len) u := by
    intro i ver off len A hA hi hr
    obtain ⟨hA, hver⟩ := arr?_some hA
    obtain ⟨A', k1, _, k2⟩ := hr
    rw [hA] at k1; injection k1 with k1; injection k1 with k1; subst k1
    exact ⟨_, har i A hi hA, Nat.le_refl _, fun _ => k2 hver⟩
  cases m with
  | keep =>
    cases v with
    | tup xs =>
      cases xs with
      | nil =>
        obtain ⟨vs, h1, h2, h3⟩ := h
        exact ⟨vs, h1, h2, fun j x v hx => by simp at hx⟩
      | cons _ _ => trivial
    | a x =>
      cases x with
      | agg ps =>
        obtain ⟨vs, h1, h2⟩ := h
        exact ⟨vs, h1, plainOrs_sound h2⟩
      | c p =>
        have h : RelC w E ok st p u := h
        cases p with
        | own i ver =>
          simp only [keepV]
          split
          · rename_i A hA
            split
            · exact own hA (by assumption) h
            · trivial
          · trivial
        | view i ver off len =>
          simp only [keepV]
          split
          · rename_i A hA
            split
            · exact view hA (by assumption) h
            · trivial
          · trivial
        | arr i ver j off =>
          simp only [keepV]
          split
          · rename_i A hA
            split
            · rename_i hi
              obtain ⟨hA, hver⟩ := arr?_some hA
              obtain ⟨A', k1, _, k2⟩ := h
              rw [hA] at k1; injection k1 with k1; injection k1 with k1; subst k1
              exact ⟨_, har i A hi hA, Nat.le_refl _, fun _ => k2 hver⟩
            · trivial
          · trivial
        | box b off =>
          simp only [keepV]
          split
          · obtain ⟨⟨cs, hc⟩, h2⟩ := h
            exact ⟨hbx b cs (by omega) hc, h2⟩
          · trivial
        | _ => exact h
  | mine c =>
    cases v with
    | tup xs => trivial
    | a x =>
      cases x with
      | agg ps => trivial
      | c p =>
        cases p with
        | own i ver =>
          simp only [keepV]
          split
          · rename_i A hA
            split
            · exact own hA (by assumption) h
            · trivial
          · trivial
        | _ => trivial
  | frz =>
    cases v with
    | tup xs => trivial
    | a x =>
      cases x with
      | agg ps => trivial
      | c p =>
        have h : RelC w E ok st p u := h
        cases p with
        | own i ver =>
          simp only [keepV]
          split
          · rename_i A hA
            split
            · rename_i hz
              obtain ⟨hA, hver⟩ := arr?_some hA
              obtain ⟨A', k1, _, k2⟩ := h
              rw [hA] at k1; injection k1 with k1; injection k1 with k1; subst k1
              have k3 := k2 hver
              have k4 := hI.ar i A hA
              cases he : E.ar i with
              | none =>
                rw [he] at k3 k4
                have k4 : A.l = [] := k4
                exact ⟨none, 0, by rw [k4]; exact k3, by rw [k4]; simp, fun hn => absurd k4 hn⟩
              | some p =>
                obtain ⟨g, o, cap, e⟩ := p
                rw [he] at k3 k4
                obtain ⟨m1, m2, cur, m3, m4, m5, m6⟩ := k4
                exact ⟨_, _, k3, m1, fun _ => ⟨g, o, rfl, (hI.arok i A g o cap e hA he).2 hz, cur, e, _, m3, m6⟩⟩
            · trivial
          · trivial
        | view i ver off len =>
          simp only [keepV]
          split
          · rename_i A hA
            split
            · rename_i hz
              obtain ⟨hA, hver⟩ := arr?_some hA
              obtain ⟨A', k1, _, k2⟩ := h
              rw [hA] at k1; injection k1 with k1; injection k1 with k1; subst k1
              obtain ⟨k3, ad, cap, k4, k5, k6⟩ := k2 hver
              have hlen : ((A.l.drop off).take len).length = len := by simp; omega
              refine ⟨ad, cap, by rw [hlen]; exact k4, by rw [hlen]; exact k5, fun hn => ?_⟩
              have hp : 0 < len := by
                rcases Nat.eq_zero_or_pos len with h0 | h0
                · exact absurd (List.eq_nil_of_length_eq_zero (hlen.trans h0)) hn
                · exact h0
              obtain ⟨g, o, cp, e, k7, k8, k9⟩ := k6 hp
              have k10 := hI.ar i A hA
              rw [k7] at k10
              obtain ⟨m1, m2, cur, m3, m4, m5, m6⟩ := k10
              refine ⟨g, o + off * A.c.sz, k8, (hI.arok i A g o cp e hA k7).2 hz, cur, e, _, m3, fun j u hj => ?_⟩
              have := m6 _ u (flatV_sub hj)
              rwa [← Nat.add_assoc] at this
            · trivial
          · trivial
        | sl c l => exact h
        | nil => exact h
        | _ => trivial
  | pl c0 =>
    cases v with
    | tup xs => trivial
    | a x =>
      cases x with
      | agg ps =>
        obtain ⟨vs, h1, h2⟩ := h
        exact ⟨vs, h1, nilPs_sound h2⟩
      | c p =>
        have h : RelC w E ok st p u := h
        cases p with
        | own i ver =>
          simp only [keepV]
          split
          · rename_i A hA
            split
            · rename_i hz
              obtain ⟨hA, hver⟩ := arr?_some hA
              obtain ⟨A', k1, _, k2⟩ := h
              rw [hA] at k1; injection k1 with k1; injection k1 with k1; subst k1
              have k3 := k2 hver
              have k4 := hI.ar i A hA
              cases he : E.ar i with
              | none =>
                rw [he] at k3 k4
                have k4 : A.l = [] := k4
                exact ⟨none, 0, by rw [k4]; exact k3, by rw [k4]; simp, fun hn => absurd k4 hn⟩
              | some p =>
                obtain ⟨g, o, cap, e⟩ := p
                rw [he] at k3 k4
                obtain ⟨m1, m2, cur, m3, m4, m5, m6⟩ := k4
                exact ⟨_, _, k3, m1, fun _ => ⟨g, o, rfl, (hI.arok i A g o cap e hA he).2 hz, cur, e, _, m3, m6⟩⟩
            · trivial
          · trivial
        | view i ver off len =>
          simp only [keepV]
          split
          · rename_i A hA
            split
            · rename_i hz
              obtain ⟨hA, hver⟩ := arr?_some hA
              obtain ⟨A', k1, _, k2⟩ := h
              rw [hA] at k1; injection k1 with k1; injection k1 with k1; subst k1
              obtain ⟨k3, ad, cap, k4, k5, k6⟩ := k2 hver
              have hlen : ((A.l.drop off).take len).length = len := by simp; omega
              refine ⟨ad, cap, by rw [hlen]; exact k4, by rw [hlen]; exact k5, fun hn => ?_⟩
              have hp : 0 < len := by
                rcases Nat.eq_zero_or_pos len with h0 | h0
                · exact absurd (List.eq_nil_of_length_eq_zero (hlen.trans h0)) hn
                · exact h0
              obtain ⟨g, o, cp, e, k7, k8, k9⟩ := k6 hp
              have k10 := hI.ar i A hA
              rw [k7] at k10
              obtain ⟨m1, m2, cur, m3, m4, m5, m6⟩ := k10
              refine ⟨g, o + off * A.c.sz, k8, (hI.arok i A g o cp e hA k7).2 hz, cur, e, _, m3, fun j u hj => ?_⟩
              have := m6 _ u (flatV_sub hj)
              rwa [← Nat.add_assoc] at this
            · trivial
          · trivial
        | sl c l => exact h
        | nil => exact ⟨none, 0, h, Nat.le_refl _, fun hn => absurd rfl hn⟩
        | _ => trivial
theorem take_some {α : Type} {l : List α} {n i : Nat} {x : α} (h : (l.take n)[i]? = some x) : i < n ∧ l[i]? = some x := by
  rw [List.getElem?_take] at h
  split at h
  · exact ⟨by assumption, h⟩
  · cases h
/-- At a loop's head. -/
theorem cutSt_sound (hI : Inv X E ok st a w) {nb : Nat} (hls : X.Ls.length ≤ 2 * nb) (H : List (Nat × Md)) : ∃ ok', Inv X E ok' (cutSt H nb st) a w := by
  obtain ⟨ok1, i1, e1, e2, e3⟩ := frzRows_sound (l := frzL st H) hI
  refine ⟨ok1, ?_⟩
  unfold cutSt
  simp only
  generalize frzRows (frzL st H) st = st1 at i1 e1 e2 e3
  have har : ∀ i A, i < 2 * nb → st1.ar[i]? = some (some A) → (arL (st1.ar.take (2 * nb)))[i]? = some (some { A with ver := 0 }) := fun i A hi hA => by
    rw [arL_get, List.getElem?_take_of_lt hi, hA]; rfl
  have hbx : ∀ b cs, b < nb → st1.bx[b]? = some (some cs) → (bxL H 0 (st1.bx.take nb))[b]? = some (some (bxK (mdOf H (bxH + (0 + b))) cs)) := fun b cs hb hc => by
    rw [bxL_get, List.getElem?_take_of_lt hb, hc]; rfl
  have oar : ∀ i A, (arL (st1.ar.take (2 * nb)))[i]? = some (some A) → ∃ B, i < 2 * nb ∧ st1.ar[i]? = some (some B) ∧ A = { B with ver := 0 } := fun i A hA => by
    rw [arL_get] at hA
    obtain ⟨z, hz, hz2⟩ := Option.map_eq_some_iff.1 hA
    obtain ⟨hi, hz⟩ := take_some hz
    cases z with
    | none => cases hz2
    | some B =>
      injection hz2 with hz2
      exact ⟨B, hi, hz, hz2.symm⟩
  have obx : ∀ b cs, (bxL H 0 (st1.bx.take nb))[b]? = some (some cs) → ∃ ds, b < nb ∧ st1.bx[b]? = some (some ds) ∧ cs = bxK (mdOf H (bxH + (0 + b))) ds := fun b cs hb => by
    rw [bxL_get] at hb
    obtain ⟨z, hz, hz2⟩ := Option.map_eq_some_iff.1 hb
    obtain ⟨hi, hz⟩ := take_some hz
    cases z with
    | none => cases hz2
    | some B =>
      injection hz2 with hz2
      exact ⟨B, hi, hz, hz2.symm⟩
  have lenK : (keepL H st1 (2 * nb) 0 st1.tm).length = st1.tm.length := by
    have aux : ∀ (l : List PV) (k : Nat), (keepL H st1 (2 * nb) k l).length = l.length := by
      intro l
      induction l with
      | nil => intro k; rfl
      | cons v l ih => intro k; simp [keepL, ih]
    exact aux _ _
  have lenA : ∀ l, (arL l).length = l.length := by
    intro l
    induction l with
    | nil => rfl
    | cons v l ih => cases v <;> simp [arL, ih]
  have lenB : ∀ l k, (bxL H k l).length = l.length := by
    intro l
    induction l with
    | nil => intro k; rfl
    | cons v l ih => intro k; cases v <;> simp [bxL, ih]
  exact { i1 with
    len := lenK.trans i1.len
    tm := fun t p v hp hv => by
      rw [keepL_get] at hp
      obtain ⟨q, hq, rfl⟩ := Option.map_eq_some_iff.1 hp
      split
      · exact keepV_sound i1 (st' := ⟨_, bxL H 0 (st1.bx.take nb), arL (st1.ar.take (2 * nb))⟩) har (fun b cs hb hc => ⟨_, hbx b cs hb hc⟩) (i1.tm t q v hq hv)
      · trivial
    bx := fun b cs hb => by
      obtain ⟨ds, _, h2, rfl⟩ := obx b cs hb
      exact bxK_sound (i1.bx b ds h2)
    ar := fun i A hA => by
      obtain ⟨B, _, h2, rfl⟩ := oar i A hA
      have := i1.ar i B h2
      cases hE : E.ar i with
      | none => rw [hE] at this; exact this
      | some q => rw [hE] at this; exact this
    arlen := by
      simp only [lenA, lenB, List.length_take]
      have h1 := i1.arlen
      have h2 : st1.bx.length = st.bx.length := by rw [e1]
      omega
    bxne := fun b b' cs cs' k h h' he he' => by
      obtain ⟨ds, _, h2, _⟩ := obx b cs h
      obtain ⟨ds', _, h2', _⟩ := obx b' cs' h'
      exact i1.bxne b b' ds ds' k h2 h2' he he'
    bxok := fun b cs k h hk => by
      obtain ⟨ds, _, h2, _⟩ := obx b cs h
      exact i1.bxok b ds k h2 hk
    arne := fun i i' A A' g o c e g' o' c' e' h h' hg hg' => by
      obtain ⟨B, _, h2, _⟩ := oar i A h
      obtain ⟨B', _, h2', _⟩ := oar i' A' h'
      exact i1.arne i i' B B' g o c e g' o' c' e' h2 h2' hg hg'
    arbx := fun i A b cs g o c e h h' => by
      obtain ⟨B, _, h2, _⟩ := oar i A h
      obtain ⟨ds, _, h2', _⟩ := obx b cs h'
      exact i1.arbx i B b ds g o c e h2 h2'
    arok := fun i A g o c e h hg => by
      obtain ⟨B, _, h2, rfl⟩ := oar i A h
      exact i1.arok i B g o c e h2 hg
    arnew := fun i A g o c e h hg => by
      obtain ⟨B, _, h2, rfl⟩ := oar i A h
      exact i1.arnew i B g o c e h2 hg
    lentat := fun j s p hj => by
      obtain ⟨A, k1, k2, k3, k4, k5⟩ := i1.lentat j s p hj
      exact ⟨_, har j A (Nat.lt_of_lt_of_le (get_lt hj) hls) k1, k2, k3, k4, k5⟩ }
theorem dropB_get (tm : List PV) : ∀ (l : List (Option (List PC))) (k i : Nat) (cs : List PC), (dropB tm k l)[i]? = some (some cs) ↔ l[i]? = some (some cs) ∧ tm.any (namesB (k + i)) = true
  | [], k, i, cs => by simp [dropB]
  | none :: l, k, 0, cs => by simp [dropB]
  | some ds :: l, k, 0, cs => by
    simp only [dropB, List.getElem?_cons_zero, Option.some.injEq, Nat.add_zero]
    split
    · rename_i h; simp [h]
    · rename_i h; simp [h]
  | none :: l, k, i + 1, cs => by
    simp only [dropB, List.getElem?_cons_succ]
    rw [dropB_get tm l (k + 1) i cs, show k + 1 + i = k + (i + 1) by omega]
  | some ds :: l, k, i + 1, cs => by
    simp only [dropB, List.getElem?_cons_succ]
    rw [dropB_get tm l (k + 1) i cs, show k + 1 + i = k + (i + 1) by omega]
theorem dropA_get (tm : List PV) : ∀ (l : List (Option AR)) (k i : Nat) (A : AR), (dropA tm k l)[i]? = some (some A) ↔ l[i]? = some (some A) ∧ (A.lt || tm.any (namesA (k + i))) = true
  | [], k, i, A => by simp [dropA]
  | none :: l, k, 0, A => by simp [dropA]
  | some B :: l, k, 0, A => by
    simp only [dropA, List.getElem?_cons_zero, Option.some.injEq, Nat.add_zero]
    split
    · rename_i h
      simp only [Option.some.injEq]
      constructor
      · rintro rfl; exact ⟨rfl, h⟩
      · exact fun h => h.1
    · rename_i h
      constructor
      · intro h; cases h
      · rintro ⟨rfl, h'⟩; exact absurd h' h
  | none :: l, k, i + 1, A => by
    simp only [dropA, List.getElem?_cons_succ]
    rw [dropA_get tm l (k + 1) i A, show k + 1 + i = k + (i + 1) by omega]
  | some B :: l, k, i + 1, A => by
    simp only [dropA, List.getElem?_cons_succ]
    rw [dropA_get tm l (k + 1) i A, show k + 1 + i = k + (i + 1) by omega]
theorem dropB_length (tm : List PV) : ∀ (l : List (Option (List PC))) (k : Nat), (dropB tm k l).length = l.length
  | [], k => rfl
  | none :: l, k => by simp [dropB, dropB_length tm l]
  | some ds :: l, k => by simp [dropB, dropB_length tm l]
theorem dropA_length (tm : List PV) : ∀ (l : List (Option AR)) (k : Nat), (dropA tm k l).length = l.length
  | [], k => rfl
  | none :: l, k => by simp [dropA, dropA_length tm l]
  | some ds :: l, k => by simp [dropA, dropA_length tm l]
def rowP : PC → Option Nat
  | .own i _ => some i
  | .view i _ _ _ => some i
  | .arr i _ _ _ => some i
  | _ => none
theorem RelC.dropped {p : PC} {v : Value} (h : RelC w E ok st p v) (hb : ∀ b off, p = .box b off → st.tm.any (namesB b) = true) (ha : ∀ i, rowP p = some i → st.tm.any (namesA i) = true) : RelC w E ok (dropSt st) p v := by
  have row : ∀ {i : Nat} {A : AR}, rowP p = some i → st.ar[i]? = some (some A) → (dropSt st).ar[i]? = some (some A) := fun {i A} hi hA => by
    refine (dropA_get _ _ _ _ _).2 ⟨hA, ?_⟩
    rw [Nat.zero_add, ha i hi, Bool.or_true]
  cases p with
  | own i ver =>
    obtain ⟨A, h1, h2⟩ := h
    exact ⟨A, row rfl h1, h2⟩
  | view i ver off len =>
    obtain ⟨A, h1, h2⟩ := h
    exact ⟨A, row rfl h1, h2⟩
  | arr i ver j off =>
    obtain ⟨A, h1, h2⟩ := h
    exact ⟨A, row rfl h1, h2⟩
  | box b off =>
    obtain ⟨⟨cs, h1⟩, h2⟩ := h
    refine ⟨⟨cs, (dropB_get _ _ _ _ _).2 ⟨h1, ?_⟩⟩, h2⟩
    rw [Nat.zero_add]; exact hb b off rfl
  | _ => exact h
theorem dropSt_sound (hI : Inv X E ok st a w) (hl : ∀ (b : Nat) (cs : List PC), st.bx[b]? = some (some cs) → obOf cs = none → cs.all looseC = true) : Inv X E ok (dropSt st) a w := by
  have ob : ∀ (b : Nat) (cs : List PC), (dropSt st).bx[b]? = some (some cs) → st.bx[b]? = some (some cs) := fun b cs h => ((dropB_get _ _ _ _ _).1 h).1
  have oa : ∀ (i : Nat) (A : AR), (dropSt st).ar[i]? = some (some A) → st.ar[i]? = some (some A) := fun i A h => ((dropA_get _ _ _ _ _).1 h).1
  exact { hI with
    len := hI.len
    tm := fun t p v hp hv => by
      have hm : p ∈ st.tm := List.mem_of_getElem? hp
      have hr := hI.tm t p v hp hv
      have anyB : ∀ b, namesB b p = true → st.tm.any (namesB b) = true := fun b h => List.any_eq_true.2 ⟨p, hm, h⟩
      have anyA : ∀ b, namesA b p = true → st.tm.any (namesA b) = true := fun b h => List.any_eq_true.2 ⟨p, hm, h⟩
      cases p with
      | a x =>
        cases x with
        | c q =>
          refine RelC.dropped hr (fun b off hq => anyB b ?_) (fun i hi => anyA i ?_)
          · rw [hq]; simp [namesB]
          · cases q <;> simp_all [rowP, namesA]
        | agg ps =>
          obtain ⟨vs, h1, h2⟩ := hr
          refine ⟨vs, h1, h2.1, fun j q u hj hu => ?_⟩
          by_cases hps : ps.all looseC = true
          · exact (h2.2 j q u hj hu).loose (List.all_eq_true.1 hps q (List.mem_of_getElem? hj)) (fun b hb => ⟨hb, rfl⟩)
          · exact (h2.2 j q u hj hu).dropped (fun b off _ => anyB b (by simp only [namesB]; simpa using hps)) (fun i _ => anyA i (by simp only [namesA]; simpa using hps))
      | tup xs =>
        obtain ⟨vs, h1, h2, h3⟩ := hr
        refine ⟨vs, h1, h2, fun j x u hj hu => ?_⟩
        have hne : xs.isEmpty = false := by
          cases xs with
          | nil => simp at hj
          | cons _ _ => rfl
        have e1 : ∀ b, st.tm.any (namesB b) = true := fun b => anyB b (by simp [namesB, hne])
        have e2 : ∀ b, st.tm.any (namesA b) = true := fun b => anyA b (by simp [namesA, hne])
        have h4 := h3 j x u hj hu
        cases x with
        | c q => exact RelC.dropped h4 (fun b off _ => e1 b) (fun i _ => e2 i)
        | agg ps =>
          obtain ⟨us, k1, k2⟩ := h4
          exact ⟨us, k1, k2.1, fun j q u hj hu => (k2.2 j q u hj hu).dropped (fun b off _ => e1 b) (fun i _ => e2 i)⟩
    bx := fun b cs hb => by
      have h0 := hI.bx b cs (ob b cs hb)
      unfold BoxAt at h0 ⊢
      split at h0
      · exact h0
      · rename_i ho
        obtain ⟨h1, vs, ty, h2, h3⟩ := h0
        refine ⟨h1, vs, ty, h2, h3.1, fun j q u hj hu => ?_⟩
        exact (h3.2 j q u hj hu).loose (List.all_eq_true.1 (hl b cs (ob b cs hb) ho) q (List.mem_of_getElem? hj)) (fun b hb => ⟨hb, rfl⟩)
    ar := fun i A h => hI.ar i A (oa i A h)
    arlen := by simp only [dropSt, dropA_length, dropB_length]; exact hI.arlen
    bxne := fun b b' cs cs' k h h' => hI.bxne b b' cs cs' k (ob b cs h) (ob b' cs' h')
    bxok := fun b cs k h => hI.bxok b cs k (ob b cs h)
    arne := fun i i' A A' g o c e g' o' c' e' h h' => hI.arne i i' A A' g o c e g' o' c' e' (oa i A h) (oa i' A' h')
    arbx := fun i A b cs g o c e h h' => hI.arbx i A b cs g o c e (oa i A h) (ob b cs h')
    arok := fun i A g o c e h => hI.arok i A g o c e (oa i A h)
    arnew := fun i A g o c e h => hI.arnew i A g o c e (oa i A h)
    lentat := fun j s p hj => by
      obtain ⟨A, k1, k2, k3⟩ := hI.lentat j s p hj
      exact ⟨A, (dropA_get _ _ _ _ _).2 ⟨k1, by rw [k2, Bool.true_or]⟩, k2, k3⟩ }
theorem plainOr_loose (p : PC) : looseC (plainOr p) = true := by
  unfold plainOr
  split
  · rename_i h; simp [looseC, h]
  · rfl
theorem nilP_loose {c : Cd} {p : PC} (h : looseC p = true) : looseC (nilP c p) = true := by
  unfold nilP
  split
  · rfl
  · exact h
theorem cutD_sound (hI : Inv X E ok st a w) {nb : Nat} (hls : X.Ls.length ≤ 2 * nb) (H : List (Nat × Md)) : ∃ ok', Inv X E ok' (cutD H nb st) a w := by
  obtain ⟨ok1, i1⟩ := cutSt_sound hI hls H
  refine ⟨ok1, dropSt_sound i1 (fun b cs hb ho => ?_)⟩
  unfold cutSt at hb
  simp only at hb
  rw [bxL_get] at hb
  obtain ⟨z, hz, hz2⟩ := Option.map_eq_some_iff.1 hb
  cases z with
  | none => cases hz2
  | some ds =>
    injection hz2 with hz2
    subst hz2
    unfold bxK at ho ⊢
    split at ho
    · rename_i o h1; rw [h1] at ho; cases ho
    · rename_i h1
      split at ho
      · rename_i c hc
        rw [List.all_eq_true]
        intro x hx
        obtain ⟨y, _, rfl⟩ := List.mem_map.1 hx
        exact nilP_loose (plainOr_loose y)
      · rename_i hc
        rw [List.all_eq_true]
        intro x hx
        obtain ⟨y, _, rfl⟩ := List.mem_map.1 hx
        exact plainOr_loose y
theorem lentLe (hI : Inv X E ok st a w) : X.Ls.length ≤ 2 * st.bx.length := by
  rcases Nat.eq_zero_or_pos X.Ls.length with h | h
  · omega
  · have hlt : X.Ls.length - 1 < X.Ls.length := by omega
    obtain ⟨A, k1, _⟩ := hI.lentat (X.Ls.length - 1) (X.Ls[X.Ls.length - 1]).1 (X.Ls[X.Ls.length - 1]).2 (List.getElem?_eq_getElem hlt)
    have := get_lt k1
    have := hI.arlen
    omega
theorem enterSt_sound : ∀ {H : List (Nat × Md)} {st st0 : St} {E : Env}, Inv X E ok st a w → enterSt H st = some st0 → ∃ E', Inv X E' ok st0 a w
  | [], st, st0, E, hI, h => by
    simp only [enterSt, Option.some.injEq] at h
    subst h
    exact ⟨E, hI⟩
  | (t, .keep) :: H, st, st0, E, hI, h => enterSt_sound (H := H) hI h
  | (t, .frz) :: H, st, st0, E, hI, h => enterSt_sound (H := H) hI h
  | (t, .pl _) :: H, st, st0, E, hI, h => enterSt_sound (H := H) hI h
  | (t, .mine c) :: H, st, st0, E, hI, h => by
    simp only [enterSt] at h
    split at h
    · rename_i hn
      have i1 := hI.grow 1
      have hfree : (st.grow 1).ar[2 * st.bx.length]? = some none := by
        simp only [St.grow]
        rw [List.getElem?_append_right (by have := hI.arlen; omega), hI.arlen]
        simp
      obtain ⟨i2, x2⟩ := i1.addAr hfree (c := c) (l := []) (p := none) rfl trivial
      have hrel := relC_own (w := w) (E := E) (ok := ok) (c := c) (l := []) (p := none) (get_lt hfree)
      have hv := hI.get t
      rw [hn] at hv
      have hv : a.tmps.getD t undef = .slice none 0 0 := hv
      have i3 := i2.put (v := .one (.own (2 * st.bx.length) 0)) (v' := .slice none 0 0) hrel (some t)
      have hput : a.put (some t) (.slice none 0 0) = a := by
        simp only [Act.put]
        have e1 : a.tmps.setIfInBounds t (.slice none 0 0) = a.tmps := by
          apply Array.ext_getElem?
          intro i
          rw [Array.getElem?_setIfInBounds]
          by_cases e : t = i
          · subst e
            simp only [Array.getD_eq_getD_getElem?] at hv
            rw [if_pos rfl]
            split
            · rename_i hlt
              rw [Array.getElem?_eq_getElem hlt] at hv ⊢
              simpa using hv.symm
            · rename_i hlt
              rw [Array.getElem?_eq_none (by omega)]
          · rw [if_neg e]
        rw [e1]
      rw [hput] at i3
      exact enterSt_sound (H := H) i3 h
    · exact enterSt_sound (H := H) hI h
end Go.Eng
end
section
set_option linter.unusedVariables false
set_option linter.unusedSimpArgs false
namespace Go.Eng
variable {R : Type} {P : Program} {st : St} {r : R} {o : Oper} {K : PV → St → Option R}

theorem binK_bind {b : Bool} {op : BinOp} {x y : PC} {K : PC → Option R} : binK b op x y K = (binK b op x y some).bind K := by
  unfold binK
  split <;> first | rfl | (split <;> first | rfl | (split <;> rfl))
theorem unK_bind {op : UnOp} {x : PC} {K : PC → Option R} : unK op x K = (unK op x some).bind K := by
  unfold unK
  split <;> rfl
theorem cutK_bind {lo hi mx : Option Int} {len : Nat} {K : Option Nat → Option Nat → Option R} : cutK lo hi mx len K = (cutK lo hi mx len fun x y => some (x, y)).bind fun z => K z.1 z.2 := by
  unfold cutK
  repeat' (first | rfl | split)
theorem idxK_bind {p : PC} {i : Int} {K : PC → Option R} : idxK st p i K = (idxK st p i some).bind K := by
  unfold idxK
  repeat' (first | rfl | split)
theorem foldK_bind {f : Int → Int → Int} : ∀ {ps : List PC} {x : PC} {K : PC → Option R}, foldK f x ps K = (foldK f x ps some).bind K
  | [], x, K => by cases x <;> rfl
  | p :: ps, x, K => by
    cases x with
    | int k a =>
      cases p with
      | int k' y =>
        simp only [foldK]
        split
        · exact foldK_bind
        · rfl
      | _ => simp [foldK]
    | _ => simp [foldK]
theorem foldsK_bind {f : Int → Int → Int} {ps : List PC} {K : PC → Option R} : foldsK f ps K = (foldsK f ps some).bind K := by
  unfold foldsK
  split
  · exact foldK_bind
  · rfl
theorem ixArr_bind {cs : List PC} {n : Int} {K : PC → Option R} : ixArr cs n K = (ixArr cs n some).bind K := by
  unfold ixArr
  repeat' (first | rfl | split)
theorem lenK_bind {xs : List Operand} {ts : List TypeId} {K : PC → Option R} : lenK P st xs ts K = (lenK P st xs ts some).bind K := by
  unfold lenK
  repeat' (first | rfl | split)
def rdV (P : Program) (o : Oper) (st : St) : Option PV := opK P (fun _ => none) (fun _ _ => none) 0 o st fun v _ => some v
theorem know_same {c : Operand} {b : Bool} (h : st.op c = .a (.c (.bool b))) : st.know c b = st := by
  cases c with
  | tmp t =>
    simp only [St.know, St.put]
    have h : st.tm.getD t (.a (.c .unk)) = .a (.c (.bool b)) := h
    have : st.tm.set t (.one (.bool b)) = st.tm := by
      apply List.ext_getElem?
      intro i
      rw [List.getElem?_set]
      split
      · rename_i e
        subst e
        rw [List.getD_eq_getElem?_getD] at h
        split
        · rename_i hlt
          rw [List.getElem?_eq_getElem hlt] at h ⊢
          exact congrArg some h.symm
        · rename_i hlt
          rw [List.getElem?_eq_none (by omega)]
      · rfl
    rw [this]
  | _ => rfl
theorem opK_reader {sg : FuncId → Option Sh} {ih : FuncId → List AA → Option Res} {slot : Nat} (ho : reader o = true) : opK P sg ih slot o st K = (rdV P o st).bind fun v => K v st := by
  unfold reader at ho
  unfold rdV opK
  split at ho
  · rename_i x h; rw [h]; rfl
  · rename_i x h; rw [h]; rfl
  · rename_i c x y h
    rw [h]
    dsimp only
    split
    · rename_i t ht
      split
      · rename_i htt
        subst htt
        rw [know_same ht]; rfl
      · rename_i htt
        have : t = false := by simpa using htt
        subst this
        rw [know_same ht]; rfl
    · rfl
  · rename_i t x h; rw [h]; dsimp only; repeat' (first | rfl | split)
  · rename_i x h; rw [h]; dsimp only; repeat' (first | rfl | split)
  · rename_i op t x y t' h
    rw [h]; dsimp only
    split
    · rw [binK_bind (R := R), binK_bind (R := PV)]
      generalize binK (R := PC) _ _ _ _ some = z
      cases z <;> rfl
    · rfl
  · rename_i op t x h
    rw [h]; dsimp only
    split
    · rw [unK_bind (R := R), unK_bind (R := PV)]
      generalize unK (R := PC) _ _ some = z
      cases z <;> rfl
    · rfl
  · rename_i s t x h; rw [h]; dsimp only; repeat' (first | rfl | split)
  · rename_i t x lo hi mx h
    rw [h]; dsimp only
    split
    · split
      · split
        · rw [cutK_bind (R := R), cutK_bind (R := PV)]
          generalize cutK _ _ _ _ (fun x y => some (x, y)) = z
          cases z <;> rfl
        · rfl
      · split
        · split
          · split
            · rw [cutK_bind (R := R), cutK_bind (R := PV)]
              generalize cutK _ _ _ _ (fun x y => some (x, y)) = z
              cases z <;> rfl
            · rfl
          · split
            · split
              · rw [cutK_bind (R := R), cutK_bind (R := PV)]
                generalize cutK _ _ _ _ (fun x y => some (x, y)) = z
                cases z <;> rfl
              · rfl
            · rfl
          · split
            · split
              · rw [cutK_bind (R := R), cutK_bind (R := PV)]
                generalize cutK _ _ _ _ (fun x y => some (x, y)) = z
                cases z <;> rfl
              · rfl
            · rfl
          · rfl
        · split
          · split
            · split
              · split
                · rw [cutK_bind (R := R), cutK_bind (R := PV)]
                  generalize cutK _ _ _ _ (fun x y => some (x, y)) = z
                  cases z <;> rfl
                · rfl
              · rfl
            · rfl
          · rfl
      · rfl
    · rfl
  · rename_i s x f h; rw [h]; dsimp only; repeat' (first | rfl | split)
  · rename_i t x f h; rw [h]; dsimp only; repeat' (first | rfl | split)
  · rename_i t x i h
    rw [h]; dsimp only
    split
    · split
      · split
        · rw [idxK_bind (R := R), idxK_bind (R := PV)]
          generalize idxK _ _ _ some = z
          cases z <;> rfl
        · rfl
      · rfl
    · repeat' (first | rfl | split)
    · repeat' (first | rfl | split)
    · rfl
  · rename_i t x i h
    rw [h]; dsimp only
    split
    · repeat' (first | rfl | split)
    · split
      · rw [ixArr_bind (R := R), ixArr_bind (R := PV)]
        generalize ixArr _ _ some = z
        cases z <;> rfl
      · rfl
    · rfl
  · rename_i x i h; rw [h]; dsimp only; repeat' (first | rfl | split)
  · rename_i c h
    rw [h]; dsimp only
    split at ho
    · rename_i hc
      rw [hc]; dsimp only
      rw [lenK_bind (R := R), lenK_bind (R := PV)]
      generalize lenK _ _ _ _ some = z
      cases z <;> rfl
    · rename_i hc
      rw [hc]; dsimp only
      rw [foldsK_bind (R := R), foldsK_bind (R := PV)]
      generalize foldsK _ _ some = z
      cases z <;> rfl
    · rename_i hc
      rw [hc]; dsimp only
      rw [foldsK_bind (R := R), foldsK_bind (R := PV)]
      generalize foldsK _ _ some = z
      cases z <;> rfl
    · cases ho
  · cases ho
end Go.Eng
end
section
set_option linter.unusedVariables false
set_option linter.unusedSimpArgs false
namespace Go.Eng
variable {R : Type} {P : Program} {st st' : St} {r : R} {o : Oper} {K : PV → St → Option R}

def frzO (o : Option AR) : Option AR := o.map fun A => { A with fz := true }
/-- What a cell names is the same, but for whether it is plain. -/
def SameP (st st' : St) : PC → Prop
  | .own i _ => frzO (st'.ar.getD i none) = frzO (st.ar.getD i none)
  | .view i _ _ _ => frzO (st'.ar.getD i none) = frzO (st.ar.getD i none)
  | .arr i _ _ _ => frzO (st'.ar.getD i none) = frzO (st.ar.getD i none)
  | .box b _ => st'.bx.getD b none = st.bx.getD b none
  | _ => True
structure Agr (st st' : St) (xs : List Operand) : Prop where
  op : ∀ x ∈ xs, st'.op x = st.op x
  mem : ∀ x ∈ xs, ∀ p, st.op x = .a (.c p) → SameP st st' p
theorem SameP.arr {i ver : Nat} (h : frzO (st'.ar.getD i none) = frzO (st.ar.getD i none)) : (st.arr? i ver = none ∧ st'.arr? i ver = none) ∨ ∃ A f, st.arr? i ver = some A ∧ st'.arr? i ver = some { A with fz := f } := by
  unfold St.arr?
  cases h1 : st.ar.getD i none with
  | none =>
    rw [h1] at h
    cases h2 : st'.ar.getD i none with
    | none => exact .inl ⟨rfl, rfl⟩
    | some B => rw [h2] at h; cases h
  | some A =>
    rw [h1] at h
    cases h2 : st'.ar.getD i none with
    | none => rw [h2] at h; cases h
    | some B =>
      rw [h2] at h
      simp only [frzO, Option.map_some, Option.some.injEq] at h
      have hB : B = { A with fz := B.fz } := by
        obtain ⟨c, l, v, f, t⟩ := A
        obtain ⟨c', l', v', f', t'⟩ := B
        simp only [AR.mk.injEq] at h
        obtain ⟨rfl, h2, rfl, _, rfl⟩ := h
        have := eq_of_heq h2
        subst this
        rfl
      rw [hB]
      by_cases hv : A.ver = ver
      · exact .inr ⟨A, B.fz, by simp [hv], by simp [hv]⟩
      · exact .inl ⟨by simp [hv], by simp [hv]⟩
theorem SameP.sl {p : PC} (h : SameP st st' p) : st'.sl? p = st.sl? p := by
  cases p with
  | own i ver => rcases SameP.arr (ver := ver) h with ⟨h1, h2⟩ | ⟨A, f, h1, h2⟩ <;> simp only [St.sl?, h1, h2]
  | view i ver off len => rcases SameP.arr (ver := ver) h with ⟨h1, h2⟩ | ⟨A, f, h1, h2⟩ <;> simp only [St.sl?, h1, h2]
  | _ => rfl
theorem SameP.cells {p : PC} (h : SameP st st' p) (n : Nat) : st'.cells? p n = st.cells? p n := by
  cases p with
  | arr i ver j off => rcases SameP.arr (ver := ver) h with ⟨h1, h2⟩ | ⟨A, f, h1, h2⟩ <;> simp only [St.cells?, h1, h2]
  | box b off =>
    have : st'.box? b = st.box? b := by
      have h : st'.bx.getD b none = st.bx.getD b none := h
      unfold St.box?; rw [h]
    simp only [St.cells?, this]
  | _ => rfl
theorem SameP.idx {p : PC} (h : SameP st st' p) (i : Int) (K : PC → Option R) : idxK st' p i K = idxK st p i K := by
  cases p with
  | own a ver => rcases SameP.arr (ver := ver) h with ⟨h1, h2⟩ | ⟨A, f, h1, h2⟩ <;> simp only [idxK, h1, h2]
  | view a ver off len => rcases SameP.arr (ver := ver) h with ⟨h1, h2⟩ | ⟨A, f, h1, h2⟩ <;> simp only [idxK, h1, h2]
  | _ => rfl
theorem bndOf_agr {x : Option Operand} (h : ∀ y, x = some y → st'.op y = st.op y) : bndOf st' x = bndOf st x := by
  cases x with
  | none => rfl
  | some y => simp only [bndOf, h y rfl]
theorem rdV_local (ho : reader o = true) (h : Agr st st' o.op.operands.toList) : rdV P o st' = rdV P o st := by
  unfold reader at ho
  unfold rdV opK
  split at ho
  · rename_i x hk; rw [hk] at h ⊢; dsimp only; rw [h.op x (by simp [Op.operands])]
  · rename_i x hk; rw [hk] at h ⊢; dsimp only; rw [h.op x (by simp [Op.operands])]
  · rename_i c x y hk; rw [hk] at h ⊢; dsimp only
    rw [h.op c (by simp [Op.operands]), h.op x (by simp [Op.operands]), h.op y (by simp [Op.operands])]
  · rename_i t x hk; rw [hk] at h ⊢; dsimp only
    rw [h.op x (by simp [Op.operands])]
    split
    · rename_i p g n hx _ _
      rw [(h.mem x (by simp [Op.operands]) p hx).cells n]
    · rfl
  · rename_i x hk; rw [hk] at h ⊢; dsimp only
    rw [h.op x (by simp [Op.operands])]
    split
    · rfl
    · rfl
    · rename_i i ver j off hx
      rcases SameP.arr (ver := ver) (h.mem x (by simp [Op.operands]) _ hx) with ⟨h1, h2⟩ | ⟨A, f, h1, h2⟩ <;> simp only [h1, h2]
    · rfl
  · rename_i op t x y t' hk; rw [hk] at h ⊢; dsimp only
    rw [h.op x (by simp [Op.operands]), h.op y (by simp [Op.operands])]
  · rename_i op t x hk; rw [hk] at h ⊢; dsimp only
    rw [h.op x (by simp [Op.operands])]
  · rename_i s t x hk; rw [hk] at h ⊢; dsimp only
    rw [h.op x (by simp [Op.operands])]
    split
    · rfl
    · rfl
    · rename_i p _ _ hx
      have hs := h.mem x (by simp [Op.operands]) p hx
      split
      · split
        · rfl
        · rw [hs.sl]
      · rfl
    · rfl
  · rename_i t x lo hi mx hk; rw [hk] at h ⊢; dsimp only
    rw [h.op x (by simp [Op.operands]), bndOf_agr (x := lo) (fun y hy => h.op y (by simp [Op.operands, hy])), bndOf_agr (x := hi) (fun y hy => h.op y (by simp [Op.operands, hy])), bndOf_agr (x := mx) (fun y hy => h.op y (by simp [Op.operands, hy]))]
    split
    · split
      · rfl
      · rename_i p _ hx
        have hs := h.mem x (by simp [Op.operands]) p hx
        split
        · split
          · rfl
          · rename_i i ver _
            rcases SameP.arr (ver := ver) hs with ⟨h1, h2⟩ | ⟨A, f, h1, h2⟩ <;> simp only [h1, h2]
          · rename_i i ver off len _
            rcases SameP.arr (ver := ver) hs with ⟨h1, h2⟩ | ⟨A, f, h1, h2⟩ <;> simp only [h1, h2]
          · rfl
        · split
          · split
            · rename_i i ver _
              rcases SameP.arr (ver := ver) hs with ⟨h1, h2⟩ | ⟨A, f, h1, h2⟩ <;> simp only [h1, h2]
            · rfl
          · rfl
      · rfl
    · rfl
  · rename_i s x f hk; rw [hk] at h ⊢; dsimp only
    rw [h.op x (by simp [Op.operands])]
    split
    · split
      · split
        · split
          · split
            · rfl
            · rename_i i ver j off hx
              rcases SameP.arr (ver := ver) (h.mem x (by simp [Op.operands]) _ hx) with ⟨h1, h2⟩ | ⟨A, f, h1, h2⟩ <;> simp only [h1, h2]
            · rfl
            · rfl
          · rfl
        · rfl
      · rfl
    · rfl
  · rename_i t x f hk; rw [hk] at h ⊢; dsimp only
    rw [h.op x (by simp [Op.operands])]
  · rename_i t x i hk; rw [hk] at h ⊢; dsimp only
    rw [h.op x (by simp [Op.operands]), h.op i (by simp [Op.operands])]
    split
    · rename_i e n p _ _ hx
      have hs := h.mem x (by simp [Op.operands]) p hx
      rw [hs.sl]
      split
      · rw [hs.idx]
      · rfl
    · rename_i n j ver _ _ hx
      rcases SameP.arr (ver := ver) (h.mem x (by simp [Op.operands]) _ hx) with ⟨h1, h2⟩ | ⟨A, f, h1, h2⟩ <;> simp only [h1, h2]
    · rfl
    · rfl
  · rename_i t x i hk; rw [hk] at h ⊢; dsimp only
    rw [h.op x (by simp [Op.operands]), h.op i (by simp [Op.operands])]
  · rename_i x i hk; rw [hk] at h ⊢; dsimp only
    rw [h.op x (by simp [Op.operands])]
  · rename_i c hk; rw [hk] at h ⊢; dsimp only
    have hsub : ∀ x ∈ c.args.toList, x ∈ (Op.call c).operands.toList := fun x hx => by
      simp only [Op.operands, Call.operands]
      split <;> simp_all
    have hpc : c.args.toList.map (pcOf st') = c.args.toList.map (pcOf st) := List.map_congr_left fun x hx => by
      unfold pcOf
      rw [h.op x (hsub x hx)]
    split at ho
    · rename_i hc; rw [hc]; dsimp only
      unfold lenK
      split
      · rename_i x t hx ht
        rw [h.op x (hsub x (by rw [hx]; simp))]
        split
        · rename_i p hp
          have hs := h.mem x (hsub x (by rw [hx]; simp)) p hp
          split
          · rfl
          · rfl
          · rw [hs.sl]
        · rfl
      · rfl
    · rename_i hc; rw [hc]; dsimp only; rw [hpc]
    · rename_i hc; rw [hc]; dsimp only; rw [hpc]
    · cases ho
  · cases ho
end Go.Eng
end
section
set_option linter.unusedVariables false
set_option linter.unusedSimpArgs false
namespace Go.Eng
variable {R : Type} {P : Program} {st st' : St} {r : R} {o : Oper} {K : PV → St → Option R}

def mark1 (i : Nat) (st : St) : St :=
  match st.ar.getD i none with
  | some A => st.setAr i { A with fz := true }
  | none => st
def mark : List Nat → St → St
  | [], st => st
  | i :: r, st => mark r (mark1 i st)
theorem mark_append : ∀ (l m : List Nat) (st : St), mark (l ++ m) st = mark m (mark l st)
  | [], m, st => rfl
  | i :: l, m, st => mark_append l m (mark1 i st)
theorem mark1_tm (i : Nat) (st : St) : (mark1 i st).tm = st.tm := by unfold mark1; split <;> rfl
theorem mark1_bx (i : Nat) (st : St) : (mark1 i st).bx = st.bx := by unfold mark1; split <;> rfl
theorem mark_tm : ∀ (l : List Nat) (st : St), (mark l st).tm = st.tm
  | [], st => rfl
  | i :: l, st => (mark_tm l _).trans (mark1_tm i st)
theorem mark_bx : ∀ (l : List Nat) (st : St), (mark l st).bx = st.bx
  | [], st => rfl
  | i :: l, st => (mark_bx l _).trans (mark1_bx i st)
theorem mark1_get (i j : Nat) (st : St) : (mark1 i st).ar.getD j none = if i = j then frzO (st.ar.getD j none) else st.ar.getD j none := by
  unfold mark1
  split
  · rename_i A hA
    simp only [St.setAr, List.getD_eq_getElem?_getD, List.getElem?_set] at hA ⊢
    by_cases e : i = j
    · subst e
      cases hq : st.ar[i]? with
      | none => rw [hq] at hA; cases hA
      | some z =>
        rw [hq] at hA
        simp only [Option.getD_some] at hA
        subst hA
        simp [get_lt hq, frzO]
    · simp [e]
  · rename_i hn
    by_cases e : i = j
    · subst e
      rw [hn]; simp [frzO]
    · simp [e]
theorem frzO_frzO (z : Option AR) : frzO (frzO z) = frzO z := by cases z <;> rfl
theorem SameP.mark1 {p : PC} (i : Nat) (h : SameP st st' p) : SameP (mark1 i st) (mark1 i st') p := by
  have key : ∀ j, frzO (st'.ar.getD j none) = frzO (st.ar.getD j none) → frzO ((Go.Eng.mark1 i st').ar.getD j none) = frzO ((Go.Eng.mark1 i st).ar.getD j none) := fun j h => by
    rw [mark1_get, mark1_get]
    split
    · rw [frzO_frzO, frzO_frzO, h]
    · exact h
  cases p with
  | own j ver => exact key j h
  | view j ver off len => exact key j h
  | arr j ver k off => exact key j h
  | box b off => simp only [SameP] at h ⊢; rw [mark1_bx, mark1_bx]; exact h
  | _ => trivial
theorem SameP.mark {p : PC} : ∀ {l : List Nat} {st st' : St}, SameP st st' p → SameP (mark l st) (Go.Eng.mark l st') p
  | [], st, st', h => h
  | i :: l, st, st', h => SameP.mark (l := l) (h.mark1 i)
theorem arr?_get {i ver : Nat} {A : AR} (h : st.arr? i ver = some A) : st.ar.getD i none = some A := by
  unfold St.arr? at h
  split at h
  · rename_i B hB
    split at h
    · injection h with h; subst h; exact hB
    · cases h
  · cases h
def nameR : PC → Option Nat
  | .own i _ => some i
  | .view i _ _ _ => some i
  | .arr i _ _ _ => some i
  | _ => none
theorem mark1_back {i j : Nat} {st : St} {B : AR} (h : (mark1 i st).ar.getD j none = some B) : ∃ A, st.ar.getD j none = some A := by
  rw [mark1_get] at h
  split at h
  · cases hq : st.ar.getD j none with
    | none => rw [hq] at h; cases h
    | some A => exact ⟨A, rfl⟩
  · exact ⟨B, h⟩
theorem mark_back {j : Nat} : ∀ {l : List Nat} {st : St} {B : AR}, (mark l st).ar.getD j none = some B → ∃ A, st.ar.getD j none = some A
  | [], st, B, h => ⟨B, h⟩
  | i :: l, st, B, h => by
    obtain ⟨A, hA⟩ := mark_back (l := l) h
    exact mark1_back hA
theorem frozen_local {p q : PC} {st1 : St} (h : st.frozen p = some (q, st1)) : ∃ l, st1 = mark l st ∧ (∀ i ∈ l, nameR p = some i ∧ ∃ A, st.ar.getD i none = some A) ∧ ∀ st', SameP st st' p → st'.frozen p = some (q, mark l st') := by
  unfold St.frozen at h
  split at h
  · rename_i i ver
    split at h
    · rename_i A hA
      split at h
      · cases h
      · rename_i hl
        simp only [Option.some.injEq, Prod.mk.injEq] at h
        obtain ⟨rfl, rfl⟩ := h
        have e1 := arr?_get hA
        refine ⟨[i], by simp only [mark, Go.Eng.mark1, e1], fun j hj => by rcases List.mem_singleton.1 hj with rfl; exact ⟨rfl, A, e1⟩, fun st' hs => ?_⟩
        rcases SameP.arr (ver := ver) hs with ⟨k1, k2⟩ | ⟨B, f, k1, k2⟩
        · rw [hA] at k1; cases k1
        · rw [hA] at k1; injection k1 with k1; subst k1
          have e2 := arr?_get k2
          unfold St.frozen
          simp only [k2, mark, Go.Eng.mark1, e2, hl]
          rfl
    · cases h
  · rename_i i ver off len
    split at h
    · rename_i A hA
      split at h
      · cases h
      · rename_i hl
        simp only [Option.some.injEq, Prod.mk.injEq] at h
        obtain ⟨rfl, rfl⟩ := h
        have e1 := arr?_get hA
        refine ⟨[i], by simp only [mark, Go.Eng.mark1, e1], fun j hj => by rcases List.mem_singleton.1 hj with rfl; exact ⟨rfl, A, e1⟩, fun st' hs => ?_⟩
        rcases SameP.arr (ver := ver) hs with ⟨k1, k2⟩ | ⟨B, f, k1, k2⟩
        · rw [hA] at k1; cases k1
        · rw [hA] at k1; injection k1 with k1; subst k1
          have e2 := arr?_get k2
          unfold St.frozen
          simp only [k2, mark, Go.Eng.mark1, e2, hl]
          rfl
    · cases h
  · cases h
  · cases h
  · cases h
  · cases h
  · cases h
  · rename_i h1 h2 h3 h4 h5 h6 h7
    simp only [Option.some.injEq, Prod.mk.injEq] at h
    obtain ⟨rfl, rfl⟩ := h
    refine ⟨[], rfl, by simp, fun st' hs => ?_⟩
    cases p <;> first | rfl | (exact absurd rfl (h1 _ _)) | (exact absurd rfl (h2 _ _ _ _)) | (exact absurd rfl (h3 _ _)) | (exact absurd rfl (h4 _ _ _ _)) | (exact absurd rfl (h5 _ _ _)) | (exact absurd rfl h6) | (exact absurd rfl (h7 _))
theorem frozens_local : ∀ {ps qs : List PC} {st st1 : St}, st.frozens ps = some (qs, st1) → ∃ l, st1 = mark l st ∧ (∀ i ∈ l, (∃ p ∈ ps, nameR p = some i) ∧ ∃ A, st.ar.getD i none = some A) ∧ ∀ st', (∀ p ∈ ps, SameP st st' p) → st'.frozens ps = some (qs, mark l st')
  | [], qs, st, st1, h => by
    simp only [St.frozens, Option.some.injEq, Prod.mk.injEq] at h
    obtain ⟨rfl, rfl⟩ := h
    exact ⟨[], rfl, by simp, fun _ _ => rfl⟩
  | p :: ps, qs, st, st1, h => by
    simp only [St.frozens] at h
    split at h
    · rename_i q st2 h1
      split at h
      · rename_i qs2 st3 h2
        simp only [Option.some.injEq, Prod.mk.injEq] at h
        obtain ⟨rfl, rfl⟩ := h
        obtain ⟨l1, e1, g1, e2⟩ := frozen_local h1
        subst e1
        obtain ⟨l2, e3, g2, e4⟩ := frozens_local h2
        refine ⟨l1 ++ l2, by rw [e3, mark_append], fun i hi => ?_, fun st' hs => ?_⟩
        · rcases List.mem_append.1 hi with hi | hi
          · exact ⟨⟨p, .head _, (g1 i hi).1⟩, (g1 i hi).2⟩
          · obtain ⟨⟨p', hp', hn⟩, A, hA⟩ := g2 i hi
            exact ⟨⟨p', .tail _ hp', hn⟩, mark_back hA⟩
        simp only [St.frozens, e2 st' (hs p (.head _)), e4 (mark l1 st') (fun p hp => (hs p (.tail _ hp)).mark), mark_append]
      · cases h
    · cases h
theorem frozenA_local {pa q : PA} {st1 : St} (h : st.frozenA pa = some (q, st1)) : ∃ l, st1 = mark l st ∧ (∀ i ∈ l, (∃ p ∈ paCells pa, nameR p = some i) ∧ ∃ A, st.ar.getD i none = some A) ∧ ∀ st', (∀ p ∈ paCells pa, SameP st st' p) → st'.frozenA pa = some (q, mark l st') := by
  unfold St.frozenA at h
  split at h
  · rename_i p
    split at h
    · rename_i q' st2 h1
      simp only [Option.some.injEq, Prod.mk.injEq] at h
      obtain ⟨rfl, rfl⟩ := h
      obtain ⟨l, e1, g, e2⟩ := frozen_local h1
      exact ⟨l, e1, fun i hi => ⟨⟨p, by simp [paCells], (g i hi).1⟩, (g i hi).2⟩, fun st' hs => by simp only [St.frozenA, e2 st' (hs p (by simp [paCells]))]⟩
    · cases h
  · rename_i ps
    split at h
    · rename_i qs st2 h1
      simp only [Option.some.injEq, Prod.mk.injEq] at h
      obtain ⟨rfl, rfl⟩ := h
      obtain ⟨l, e1, g, e2⟩ := frozens_local h1
      exact ⟨l, e1, fun i hi => g i hi, fun st' hs => by simp only [St.frozenA, e2 st' (fun p hp => hs p hp)]⟩
    · cases h
/-- What the operands name is the same. -/
structure AgrA (st st' : St) (xs : List Operand) : Prop where
  op : ∀ x ∈ xs, st'.op x = st.op x
  mem : ∀ x ∈ xs, ∀ pa, st.op x = .a pa → ∀ p ∈ paCells pa, SameP st st' p
theorem mark_op (l : List Nat) (st : St) (x : Operand) : (mark l st).op x = st.op x := by cases x <;> simp [St.op, St.get, mark_tm]
theorem AgrA.mark {xs : List Operand} (h : AgrA st st' xs) (l : List Nat) : AgrA (mark l st) (Go.Eng.mark l st') xs :=
  ⟨fun x hx => by rw [mark_op, mark_op]; exact h.op x hx, fun x hx pa hpa p hp => (h.mem x hx pa (by rw [← mark_op l]; exact hpa) p hp).mark⟩
theorem AgrA.tail {x : Operand} {xs : List Operand} (h : AgrA st st' (x :: xs)) : AgrA st st' xs := ⟨fun y hy => h.op y (.tail _ hy), fun y hy => h.mem y (.tail _ hy)⟩
def Nm (st : St) (xs : List Operand) (i : Nat) : Prop := ∃ x ∈ xs, ∃ pa, st.op x = .a pa ∧ ∃ p ∈ paCells pa, nameR p = some i
theorem Nm.tail {x : Operand} {xs : List Operand} {i : Nat} (h : Nm st xs i) : Nm st (x :: xs) i := by
  obtain ⟨y, hy, k⟩ := h
  exact ⟨y, .tail _ hy, k⟩
theorem Nm.mark {xs : List Operand} {i : Nat} {l : List Nat} (h : Nm (mark l st) xs i) : Nm st xs i := by
  obtain ⟨y, hy, pa, h1, k⟩ := h
  exact ⟨y, hy, pa, by rw [← mark_op l]; exact h1, k⟩
theorem argsOf_local : ∀ {xs : List Operand} {n : Nat} {as : List AA} {st st1 : St}, argsOf [] st n xs = some (as, st1) → ∃ l, st1 = mark l st ∧ (∀ i ∈ l, Nm st xs i ∧ ∃ A, st.ar.getD i none = some A) ∧ ∀ st', AgrA st st' xs → argsOf [] st' n xs = some (as, mark l st')
  | [], n, as, st, st1, h => by
    simp only [argsOf, Option.some.injEq, Prod.mk.injEq] at h
    obtain ⟨rfl, rfl⟩ := h
    exact ⟨[], rfl, by simp, fun _ _ => rfl⟩
  | x :: xs, n, as, st, st1, h => by
    unfold argsOf at h
    split at h
    · rename_i aa st2 h1
      split at h
      · rename_i as' st3 h2
        simp only [Option.some.injEq, Prod.mk.injEq] at h
        obtain ⟨rfl, rfl⟩ := h
        have step : ∃ l, st2 = mark l st ∧ (∀ i ∈ l, Nm st (x :: xs) i ∧ ∃ A, st.ar.getD i none = some A) ∧ ∀ st', AgrA st st' (x :: xs) → argOf (List.contains [] n) st' (st'.op x) = some (aa, mark l st') := by
          unfold argOf at h1
          split at h1
          · rename_i pa hpa
            simp only [List.contains_nil, Bool.false_eq_true, if_false] at h1
            split at h1
            · rename_i q st4 hq
              simp only [Option.some.injEq, Prod.mk.injEq] at h1
              obtain ⟨rfl, rfl⟩ := h1
              obtain ⟨l, e1, g, e2⟩ := frozenA_local hq
              refine ⟨l, e1, fun i hi => ⟨⟨x, .head _, pa, hpa, (g i hi).1⟩, (g i hi).2⟩, fun st' ha => ?_⟩
              rw [ha.op x (.head _), hpa]
              unfold argOf
              simp only [List.contains_nil, Bool.false_eq_true, if_false, e2 st' (ha.mem x (.head _) pa hpa)]
            · cases h1
          · cases h1
        obtain ⟨l1, rfl, g1, e2⟩ := step
        obtain ⟨l2, e3, g2, e4⟩ := argsOf_local h2
        refine ⟨l1 ++ l2, by rw [e3, mark_append], fun i hi => ?_, fun st' ha => ?_⟩
        · rcases List.mem_append.1 hi with hi | hi
          · exact g1 i hi
          · obtain ⟨hn, A, hA⟩ := g2 i hi
            exact ⟨hn.mark.tail, mark_back hA⟩
        unfold argsOf
        simp only [e2 st' ha, e4 (Go.Eng.mark l1 st') (ha.tail.mark l1), mark_append]
      · cases h
    · cases h
end Go.Eng
end
section
set_option linter.unusedVariables false
set_option linter.unusedSimpArgs false
namespace Go.Eng
variable {R : Type} {P : Program} {st st' : St} {r : R} {o : Oper} {K : PV → St → Option R}

def setRs : Nat → List AR → St → St
  | _, [], st => st
  | n, A :: r, st => setRs (n + 1) r (st.setAr n A)
def freshRA : List RA → Nat
  | [] => 0
  | .v _ :: r => freshRA r
  | .fresh _ _ :: r => freshRA r + 1
theorem fresh_enc : ∀ (ss : List SA) (x : raTy ss), freshRA (raEnc ss x) = freshN ss
  | [], x => rfl
  | [s], x => by cases s <;> rfl
  | s :: s' :: ss, x => by
    have := fresh_enc (s' :: ss) x.2
    cases s <;> simp only [raEnc, SA.enc, freshRA, freshN] at this ⊢ <;> simp [this, freshN]
theorem shEnc_rs (rs : List SA) (mu : List Cd) (x : shTy rs mu) : freshRA (shEnc rs mu x).rs = freshN rs := by
  cases rs with
  | nil => cases mu <;> rfl
  | cons s rs => cases mu <;> exact fresh_enc _ _
theorem inOf_local : ∀ {rs : List RA} {n : Nat} {xs : List PA} {st st1 : St}, inOf st n rs = some (xs, st1) → ∃ As : List AR, As.length = freshRA rs ∧ st1 = setRs n As st ∧ (∀ k, k < As.length → st.ar[n + k]? = some none) ∧ ∀ st' : St, (∀ k, k < As.length → st'.ar[n + k]? = st.ar[n + k]?) → inOf st' n rs = some (xs, setRs n As st')
  | [], n, xs, st, st1, h => by
    simp only [inOf, Option.some.injEq, Prod.mk.injEq] at h
    obtain ⟨rfl, rfl⟩ := h
    exact ⟨[], rfl, rfl, by simp, fun st' _ => rfl⟩
  | .v x :: rs, n, xs, st, st1, h => by
    simp only [inOf] at h
    split at h
    · rename_i l st2 h1
      simp only [Option.some.injEq, Prod.mk.injEq] at h
      obtain ⟨rfl, rfl⟩ := h
      obtain ⟨As, e0, e1, f1, e2⟩ := inOf_local h1
      exact ⟨As, e0, e1, f1, fun st' hs => by simp only [inOf, e2 st' hs]⟩
    · cases h
  | .fresh k l :: rs, n, xs, st, st1, h => by
    simp only [inOf] at h
    split at h
    · rename_i st0 h0
      obtain ⟨hn, rfl⟩ := newAr_some h0
      split at h
      · rename_i ys st2 h1
        simp only [Option.some.injEq, Prod.mk.injEq] at h
        obtain ⟨rfl, rfl⟩ := h
        obtain ⟨As, e0, e1, f1, e2⟩ := inOf_local h1
        refine ⟨⟨k, l, 0, false, false⟩ :: As, by simp [freshRA, e0], e1, fun k hk => ?_, fun st' hs => ?_⟩
        · cases k with
          | zero => exact hn
          | succ k =>
            have := f1 k (by simp at hk; omega)
            simp only [St.setAr] at this
            rw [List.getElem?_set_ne (by omega)] at this
            rw [← this]
            congr 1
            omega
        have h00 := hs 0 (by simp)
        rw [Nat.add_zero, hn] at h00
        have hnew : st'.newAr n ⟨k, l, 0, false, false⟩ = some (st'.setAr n ⟨k, l, 0, false, false⟩) := by
          unfold St.newAr
          rw [h00]
        have := e2 (st'.setAr n ⟨k, l, 0, false, false⟩) (fun k hk => by
          have := hs (k + 1) (by simp; omega)
          rw [show n + 1 + k = n + (k + 1) by omega]
          simp only [St.setAr]
          rw [List.getElem?_set_ne (by omega), List.getElem?_set_ne (by omega)]
          exact this)
        simp only [inOf, hnew, this, setRs]
      · cases h
    · cases h
def setB (slot : Nat) (b : Option (List PC)) (st : St) : St := match b with
  | none => st
  | some cs => st.setBx slot cs
def fin (slot : Nat) (l : List Nat) (b : Option (List PC)) (As : List AR) (st : St) : St := setRs (2 * slot) As (setB slot b (mark l st))
/-- What is new has its place free. -/
structure Slot (st st' : St) (slot n : Nat) : Prop where
  bx : st'.bx[slot]? = st.bx[slot]?
  ar : ∀ k, k < n → st'.ar[2 * slot + k]? = st.ar[2 * slot + k]?
theorem mark1_some (i j : Nat) (st : St) : (mark1 i st).ar[j]? = (st.ar[j]?).map fun z => if i = j then frzO z else z := by
  unfold mark1
  split
  · rename_i A hA
    simp only [St.setAr, List.getD_eq_getElem?_getD, List.getElem?_set] at hA ⊢
    by_cases e : i = j
    · subst e
      cases hq : st.ar[i]? with
      | none => rw [hq] at hA; cases hA
      | some z =>
        rw [hq] at hA
        simp only [Option.getD_some] at hA
        subst hA
        simp [get_lt hq, frzO]
    · simp [e]
  · rename_i hn
    rw [List.getD_eq_getElem?_getD] at hn
    cases hq : st.ar[j]? with
    | none => rfl
    | some z =>
      by_cases e : i = j
      · subst e
        rw [hq] at hn
        simp only [Option.getD_some] at hn
        subst hn
        simp [frzO]
      · simp [e]
theorem mark_some (j : Nat) : ∀ (l : List Nat) (st st' : St), st'.ar[j]? = st.ar[j]? → (mark l st').ar[j]? = (mark l st).ar[j]?
  | [], st, st', h => h
  | i :: l, st, st', h => mark_some j l _ _ (by rw [mark1_some, mark1_some, h])
theorem mark_free {j : Nat} : ∀ {l : List Nat} {st : St}, (mark l st).ar[j]? = some none → st.ar[j]? = some none
  | [], st, h => h
  | i :: l, st, h => by
    have := mark_free (l := l) h
    rw [mark1_some] at this
    cases hq : st.ar[j]? with
    | none => rw [hq] at this; cases this
    | some z =>
      rw [hq] at this
      cases z with
      | none => rfl
      | some A =>
        simp only [Option.map_some, Option.some.injEq] at this
        split at this <;> cases this
theorem backOf_nil : ∀ {xs : List Operand} {n : Nat} {mu : List SL} {st st2 : St}, backOf [] st n xs mu = some st2 → mu = [] ∧ st2 = st
  | [], n, [], st, st2, h => by
    simp only [backOf, Option.some.injEq] at h
    exact ⟨rfl, h.symm⟩
  | [], n, s :: mu, st, st2, h => by simp [backOf] at h
  | x :: xs, n, mu, st, st2, h => by
    unfold backOf at h
    simp only [List.contains_nil, Bool.false_eq_true, if_false] at h
    exact backOf_nil h
theorem backOf_nil' : ∀ {xs : List Operand} {n : Nat} {st : St}, backOf [] st n xs [] = some st
  | [], n, st => rfl
  | x :: xs, n, st => by
    unfold backOf
    simp only [List.contains_nil, Bool.false_eq_true, if_false]
    exact backOf_nil'
theorem lentIx_nil : ∀ {xs : List Operand} {n : Nat} {st : St}, lentIx [] st n xs = []
  | [], n, st => rfl
  | x :: xs, n, st => by
    unfold lentIx
    simp only [List.contains_nil, Bool.false_eq_true, if_false]
    exact lentIx_nil
theorem lentPos_nil {st : St} : ∀ {xs : List Operand} {n : Nat}, lentPos [] st n xs = true
  | [], n => rfl
  | x :: xs, n => by
    unfold lentPos
    simp only [List.contains_nil, Bool.false_eq_true, if_false]
    exact lentPos_nil
theorem callK_local {sg : FuncId → Option Sh} {ih : FuncId → List AA → Option Res} {slot : Nat} {g : FuncId} {xs : List Operand} {sh : Sh} (hsg : sg g = some sh) (hob : sh.obj = none) (hl : sh.lent = []) (h : callK sg ih slot g xs st K = some r) :
    ∃ v l As, As.length = freshN sh.rs ∧ K v (fin slot l none As st) = some r ∧ (∀ i ∈ l, Nm st xs i ∧ ∃ A, st.ar.getD i none = some A) ∧ (∀ k, k < As.length → st.ar[2 * slot + k]? = some none) ∧ ∀ (st' : St) (R' : Type) (K' : PV → St → Option R'), AgrA st st' xs → (∀ k, k < As.length → st'.ar[2 * slot + k]? = st.ar[2 * slot + k]?) → callK sg ih slot g xs st' K' = K' v (fin slot l none As st') := by
  unfold callK at h
  rw [hsg] at h
  dsimp only at h
  rw [hob] at h
  dsimp only at h
  rw [hl] at h
  split at h
  · cases h
  · rename_i as st0 has
    rw [lentIx_nil] at h
    obtain ⟨l0, e0, n0, g0⟩ := argsOf_local has
    by_cases hcond : (lentOk st0 [] && (sh.keeps || noSl sh.rs)) = true
    · rw [if_pos hcond, lentPosK_eq, lentPos_nil, if_pos rfl] at h
      cases hres : ih g (pinAs sh.pin as) with
      | none => rw [hres] at h; cases h
      | some res =>
        rw [hres] at h
        simp only [callT] at h
        cases hx : shDec sh.rs sh.mu res with
        | none => rw [hx] at h; cases h
        | some x =>
          rw [hx] at h
          dsimp only at h
          have key : ∃ l, (if sh.keeps = true then st0 else st) = mark l st ∧ (∀ i ∈ l, Nm st xs i ∧ ∃ A, st.ar.getD i none = some A) ∧ ∀ st', AgrA st st' xs → (if sh.keeps = true then mark l0 st' else st') = mark l st' := by
            by_cases hk : sh.keeps = true
            · exact ⟨l0, by rw [if_pos hk]; exact e0, n0, fun st' _ => by rw [if_pos hk]⟩
            · exact ⟨[], by rw [if_neg hk]; rfl, by simp, fun st' _ => by rw [if_neg hk]; rfl⟩
          obtain ⟨l, e1, n1, g1⟩ := key
          rw [e1] at h
          split at h
          · cases h
          · rename_i st2 hb
            obtain ⟨hmu, e2⟩ := backOf_nil hb
            subst e2
            split at h
            · rename_i vs st3 hin
              obtain ⟨As, e33, e3, f3, g3⟩ := inOf_local hin
              refine ⟨resV vs, l, As, e33.trans (shEnc_rs _ _ _), by rw [e3] at h; exact h, n1, fun k hk => mark_free (f3 k hk), fun st' R' K' ha hs => ?_⟩
              unfold callK
              rw [hsg]
              dsimp only
              rw [hob]
              dsimp only
              rw [hl, g0 st' ha, lentIx_nil]
              dsimp only
              have hcond' : (lentOk (mark l0 st') [] && (sh.keeps || noSl sh.rs)) = true := hcond
              rw [if_pos hcond', lentPosK_eq, lentPos_nil, if_pos rfl, hres]
              simp only [callT, hx]
              rw [g1 st' ha, hmu, backOf_nil']
              dsimp only
              rw [g3 (mark l st') (fun k hk => mark_some _ l _ _ (hs k hk))]
              rfl
            · cases h
    · rw [if_neg hcond] at h; cases h
end Go.Eng
end
section
set_option linter.unusedVariables false
set_option linter.unusedSimpArgs false
namespace Go.Eng
variable {R : Type} {P : Program} {st st' : St} {r : R} {o : Oper} {K : PV → St → Option R}

theorem partsOf_local : ∀ {parts : List (Nat × Operand)} {ps : List (Nat × List PC)} {st st1 : St}, partsOf st parts = some (ps, st1) → ∃ l, st1 = mark l st ∧ (∀ i ∈ l, Nm st (parts.map (·.2)) i ∧ ∃ A, st.ar.getD i none = some A) ∧ ∀ st', AgrA st st' (parts.map (·.2)) → partsOf st' parts = some (ps, mark l st')
  | [], ps, st, st1, h => by
    simp only [partsOf, Option.some.injEq, Prod.mk.injEq] at h
    obtain ⟨rfl, rfl⟩ := h
    exact ⟨[], rfl, by simp, fun _ _ => rfl⟩
  | (i, x) :: parts, ps, st, st1, h => by
    unfold partsOf at h
    split at h
    · rename_i pa hx
      split at h
      · rename_i q st2 hq
        split at h
        · rename_i ps' st3 hl
          simp only [Option.some.injEq, Prod.mk.injEq] at h
          obtain ⟨rfl, rfl⟩ := h
          obtain ⟨l1, rfl, g1, e2⟩ := frozenA_local hq
          obtain ⟨l2, e3, g2, e4⟩ := partsOf_local hl
          refine ⟨l1 ++ l2, by rw [e3, mark_append], fun i hi => ?_, fun st' ha => ?_⟩
          · rcases List.mem_append.1 hi with hi | hi
            · exact ⟨⟨x, .head _, pa, hx, (g1 i hi).1⟩, (g1 i hi).2⟩
            · obtain ⟨hn, A, hA⟩ := g2 i hi
              exact ⟨Nm.tail (Nm.mark hn), mark_back hA⟩
          unfold partsOf
          rw [ha.op x (.head _), hx]
          dsimp only
          rw [e2 st' (ha.mem x (.head _) pa hx)]
          dsimp only
          rw [e4 (mark l1 st') (AgrA.mark (AgrA.tail ha) l1)]
          simp only [mark_append]
        · cases h
      · cases h
    · cases h
theorem cellsOfParts_local : ∀ {c : Cd} {parts : List (Nat × Operand)} {n : Nat} {ys : List c.ty} {st st1 : St}, cellsOfParts c st n parts = some (ys, st1) → ∃ l, st1 = mark l st ∧ (∀ i ∈ l, Nm st (parts.map (·.2)) i ∧ ∃ A, st.ar.getD i none = some A) ∧ ∀ st', AgrA st st' (parts.map (·.2)) → cellsOfParts c st' n parts = some (ys, mark l st')
  | c, [], n, ys, st, st1, h => by
    simp only [cellsOfParts, Option.some.injEq, Prod.mk.injEq] at h
    obtain ⟨rfl, rfl⟩ := h
    exact ⟨[], rfl, by simp, fun _ _ => rfl⟩
  | c, (i, x) :: parts, n, ys, st, st1, h => by
    unfold cellsOfParts at h
    split at h
    · rename_i hin
      split at h
      · rename_i pa hx
        split at h
        · rename_i q st2 hq
          split at h
          · rename_i y hd
            split at h
            · rename_i l' st3 hl
              simp only [Option.some.injEq, Prod.mk.injEq] at h
              obtain ⟨rfl, rfl⟩ := h
              obtain ⟨l1, rfl, g1, e2⟩ := frozenA_local hq
              obtain ⟨l2, e3, g2, e4⟩ := cellsOfParts_local hl
              refine ⟨l1 ++ l2, by rw [e3, mark_append], fun i hi => ?_, fun st' ha => ?_⟩
              · rcases List.mem_append.1 hi with hi | hi
                · exact ⟨⟨x, .head _, pa, hx, (g1 i hi).1⟩, (g1 i hi).2⟩
                · obtain ⟨hn, A, hA⟩ := g2 i hi
                  exact ⟨Nm.tail (Nm.mark hn), mark_back hA⟩
              unfold cellsOfParts
              rw [if_pos hin, ha.op x (.head _), hx]
              dsimp only
              rw [e2 st' (ha.mem x (.head _) pa hx)]
              dsimp only
              rw [hd]
              dsimp only
              rw [e4 (mark l1 st') (AgrA.mark (AgrA.tail ha) l1)]
              simp only [mark_append]
            · cases h
          · cases h
        · cases h
      · cases h
    · cases h
theorem opK_maker {sg : FuncId → Option Sh} {ih : FuncId → List AA → Option Res} {slot : Nat} (ho : maker sg o = true) (h : opK P sg ih slot o st K = some r) :
    ∃ v l b As, As.length ≤ 2 ∧ K v (fin slot l b As st) = some r ∧ (∀ i ∈ l, Nm st o.op.operands.toList i ∧ ∃ A, st.ar.getD i none = some A) ∧ (∀ k, k < As.length → st.ar[2 * slot + k]? = some none) ∧ (b ≠ none → st.bx[slot]? = some none) ∧ ∀ (st' : St) (R' : Type) (K' : PV → St → Option R'), AgrA st st' o.op.operands.toList → Slot st st' slot As.length → opK P sg ih slot o st' K' = K' v (fin slot l b As st') := by
  unfold maker at ho
  unfold opK at h
  split at ho
  · rename_i t hk
    rw [hk] at h; dsimp only at h
    split at h
    · rename_i i hi
      split at h
      · rename_i z hz
        split at h
        · rename_i n c harr
          split at h
          · rename_i hc
            split at h
            · rename_i st1 hn
              obtain ⟨hf, rfl⟩ := newAr_some hn
              refine ⟨_, [], none, [⟨c, List.replicate n c.dflt, 0, false, false⟩], by simp, h, by simp, fun k hk => by
                  have : k = 0 := by simp at hk; omega
                  subst this
                  exact hf, by simp, fun st' R' K' ha hs => ?_⟩
              have hfree : st'.ar[2 * slot]? = some none := by
                rw [← hf]
                exact hs.ar 0 (by simp)
              have : st'.newAr (2 * slot) ⟨c, List.replicate n c.dflt, 0, false, false⟩ = some (st'.setAr (2 * slot) ⟨c, List.replicate n c.dflt, 0, false, false⟩) := by
                unfold St.newAr; rw [hfree]
              unfold opK
              rw [hk]; dsimp only
              rw [hi]; dsimp only
              rw [hz]; dsimp only
              rw [harr]; dsimp only
              rw [if_pos hc, this]
              rfl
            · cases h
          · cases h
        · rename_i harr
          split at h
          · rename_i e hbld
            split at h
            · rename_i hc
              split at h
              · rename_i st1 hn
                obtain ⟨hf, rfl⟩ := newBx_some hn
                refine ⟨_, [], some [.objc (.bld t e ⟨#[]⟩)], [], by simp, h, by simp, by simp, fun _ => hf, fun st' R' K' ha hs => ?_⟩
                have : st'.newBx slot [.objc (.bld t e ⟨#[]⟩)] = some (st'.setBx slot [.objc (.bld t e ⟨#[]⟩)]) := by
                  unfold St.newBx; rw [hs.bx, hf]
                unfold opK
                rw [hk]; dsimp only
                rw [hi]; dsimp only
                rw [hz]; dsimp only
                rw [harr]; dsimp only
                rw [hbld]; dsimp only
                rw [if_pos hc, this]
                rfl
              · cases h
            · cases h
          · rename_i hbld
            split at h
            · rename_i hc
              split at h
              · rename_i st1 hn
                obtain ⟨hf, rfl⟩ := newBx_some hn
                refine ⟨_, [], some (z.cells.toList.map constC), [], by simp, h, by simp, by simp, fun _ => hf, fun st' R' K' ha hs => ?_⟩
                have : st'.newBx slot (z.cells.toList.map constC) = some (st'.setBx slot (z.cells.toList.map constC)) := by
                  unfold St.newBx; rw [hs.bx, hf]
                unfold opK
                rw [hk]; dsimp only
                rw [hi]; dsimp only
                rw [hz]; dsimp only
                rw [harr]; dsimp only
                rw [hbld]; dsimp only
                rw [if_pos hc, this]
                rfl
              · cases h
            · cases h
      · cases h
    · cases h
  · rename_i t x hk
    rw [hk] at h; dsimp only at h
    split at h
    · rename_i pa hx
      split at h
      · rename_i q st1 hq
        split at h
        · rename_i st2 hn
          obtain ⟨hf, rfl⟩ := newBx_some hn
          obtain ⟨l, rfl, gl, e2⟩ := frozenA_local hq
          refine ⟨_, l, some (paCells q), [], by simp, h, fun i hi => ⟨⟨x, by rw [hk]; simp [Op.operands], pa, hx, (gl i hi).1⟩, (gl i hi).2⟩, by simp, fun _ => by rw [mark_bx] at hf; exact hf, fun st' R' K' ha hs => ?_⟩
          have hx' : x ∈ o.op.operands.toList := by rw [hk]; simp [Op.operands]
          have : (mark l st').newBx slot (paCells q) = some ((mark l st').setBx slot (paCells q)) := by
            unfold St.newBx
            rw [mark_bx, hs.bx]
            rw [mark_bx] at hf
            rw [hf]
          unfold opK
          rw [hk]; dsimp only
          rw [ha.op x hx', hx]; dsimp only
          rw [e2 st' (ha.mem x hx' pa hx)]; dsimp only
          rw [this]
          rfl
        · cases h
      · cases h
    · cases h
  · rename_i t parts hk
    rw [hk] at h; dsimp only at h
    split at h
    · rename_i fs i hu hi
      split at h
      · rename_i z pl hz hpl
        split at h
        · rename_i ps st1 hps
          split at h
          · rename_i cs hcs
            obtain ⟨l, rfl, gl, e2⟩ := partsOf_local hps
            have hops : o.op.operands.toList = parts.toList.map (·.2) := by rw [hk]; simp [Op.operands]
            refine ⟨_, l, none, [], by simp, h, by rw [hops]; exact gl, by simp, by simp, fun st' R' K' ha hs => ?_⟩
            have ha' : AgrA st st' (parts.toList.map (·.2)) := by
              rw [hk] at ha
              simpa [Op.operands] using ha
            unfold opK
            rw [hk]; dsimp only
            rw [hu, hi]; dsimp only
            rw [hz, hpl]; dsimp only
            rw [e2 st' ha']; dsimp only
            rw [hcs]
            rfl
          · cases h
        · cases h
      · cases h
    · rename_i n e i hu hi
      split at h
      · rename_i z k hz hsz
        split at h
        · rename_i ps st1 hps
          split at h
          · rename_i cs hcs
            obtain ⟨l, rfl, gl, e2⟩ := partsOf_local hps
            have hops : o.op.operands.toList = parts.toList.map (·.2) := by rw [hk]; simp [Op.operands]
            refine ⟨_, l, none, [], by simp, h, by rw [hops]; exact gl, by simp, by simp, fun st' R' K' ha hs => ?_⟩
            have ha' : AgrA st st' (parts.toList.map (·.2)) := by
              rw [hk] at ha
              simpa [Op.operands] using ha
            unfold opK
            rw [hk]; dsimp only
            rw [hu, hi]; dsimp only
            rw [hz, hsz]; dsimp only
            rw [e2 st' ha']; dsimp only
            rw [hcs]
            rfl
          · cases h
        · cases h
      · cases h
    · cases h
  · rename_i t len parts hk
    rw [hk] at h; dsimp only at h
    split at h
    · rename_i e he
      split at h
      · rename_i c hc
        split at h
        · rename_i hcond
          split at h
          · rename_i ys st1 hcp
            split at h
            · rename_i st2 hn
              obtain ⟨hf, rfl⟩ := newAr_some hn
              obtain ⟨l, rfl, gl, e2⟩ := cellsOfParts_local hcp
              have hops : o.op.operands.toList = parts.toList.map (·.2) := by rw [hk]; simp [Op.operands]
              refine ⟨_, l, none, [⟨c, ys, 0, false, false⟩], by simp, h, by rw [hops]; exact gl, fun k hk => by
                have : k = 0 := by simp at hk; omega
                subst this
                exact mark_free hf, by simp, fun st' R' K' ha hs => ?_⟩
              have ha' : AgrA st st' (parts.toList.map (·.2)) := by
                rw [hk] at ha
                simpa [Op.operands] using ha
              have hfree : (mark l st').ar[2 * slot]? = some none := by
                rw [← hf]
                exact mark_some _ l _ _ (hs.ar 0 (by simp))
              have : (mark l st').newAr (2 * slot) ⟨c, ys, 0, false, false⟩ = some ((mark l st').setAr (2 * slot) ⟨c, ys, 0, false, false⟩) := by
                unfold St.newAr; rw [hfree]
              unfold opK
              rw [hk]; dsimp only
              rw [he]; dsimp only
              rw [hc]; dsimp only
              rw [if_pos hcond, e2 st' ha']; dsimp only
              rw [this]
              rfl
            · cases h
          · cases h
        · cases h
      · cases h
    · cases h
  · rename_i t n m hk
    rw [hk] at h; dsimp only at h
    split at h
    · rename_i e he
      split at h
      · rename_i c hc
        split at h
        · rename_i x hx
          split at h
          · rename_i hcond
            split at h
            · rename_i st1 hn
              obtain ⟨hf, rfl⟩ := newAr_some hn
              split at h
              · rename_i hb
                refine ⟨_, [], none, [⟨c, List.replicate x.toNat c.dflt, 0, false, false⟩], by simp, h, by simp, fun k hk => by
                  have : k = 0 := by simp at hk; omega
                  subst this
                  exact hf, by simp, fun st' R' K' ha hs => ?_⟩
                have hx' : n ∈ o.op.operands.toList := by rw [hk]; simp [Op.operands]
                have hfree : st'.ar[2 * slot]? = some none := by
                  rw [← hf]
                  exact hs.ar 0 (by simp)
                have : st'.newAr (2 * slot) ⟨c, List.replicate x.toNat c.dflt, 0, false, false⟩ = some (st'.setAr (2 * slot) ⟨c, List.replicate x.toNat c.dflt, 0, false, false⟩) := by
                  unfold St.newAr; rw [hfree]
                unfold opK
                rw [hk]; dsimp only
                rw [he]; dsimp only
                rw [hc]; dsimp only
                rw [ha.op n hx', hx]; dsimp only
                rw [if_pos hcond, this]; dsimp only
                rw [if_pos hb]
                rfl
              · cases h
            · cases h
          · cases h
        · cases h
      · cases h
    · cases h
  · rename_i c hk
    split at ho
    · rename_i g hc
      split at ho
      · rename_i sh hsg
        rw [hk] at h; dsimp only at h
        rw [hc] at h; dsimp only at h
        simp only [Bool.and_eq_true, decide_eq_true_eq] at ho
        obtain ⟨v, l, As, h0, h1, gl, fl, h2⟩ := callK_local hsg (Option.isNone_iff_eq_none.1 ho.1.1) (List.isEmpty_iff.1 ho.1.2) h
        have hsub : ∀ x ∈ c.args.toList, x ∈ o.op.operands.toList := fun x hx => by
          rw [hk]
          simp only [Op.operands, Call.operands]
          simp [hx]
        refine ⟨v, l, none, As, by omega, h1, fun i hi => ?_, fl, by simp, fun st' R' K' ha hs => ?_⟩
        · obtain ⟨⟨x, hx, k⟩, hA⟩ := gl i hi
          exact ⟨⟨x, hsub x hx, k⟩, hA⟩
        unfold opK
        rw [hk]; dsimp only
        rw [hc]; dsimp only
        exact h2 st' R' K' ⟨fun x hx => ha.op x (hsub x hx), fun x hx => ha.mem x (hsub x hx)⟩ (fun k hk => hs.ar k hk)
      · cases ho
    · cases ho
  · cases ho
end Go.Eng
end
section
set_option linter.unusedVariables false
set_option linter.unusedSimpArgs false
namespace Go.Eng
variable {R : Type} {P : Program} {st st' : St} {r : R} {o : Oper} {K : PV → St → Option R}

theorem AgrA.agr {xs : List Operand} (h : AgrA st st' xs) : Agr st st' xs := ⟨h.op, fun x hx p hp => h.mem x hx _ hp p (by simp [paCells])⟩
theorem opK_quiet {sg : FuncId → Option Sh} {ih : FuncId → List AA → Option Res} {slot : Nat} (ho : quiet sg o = true) (h : opK P sg ih slot o st K = some r) :
    ∃ v l b As, As.length ≤ 2 ∧ K v (fin slot l b As st) = some r ∧ (∀ i ∈ l, Nm st o.op.operands.toList i ∧ ∃ A, st.ar.getD i none = some A) ∧ (∀ k, k < As.length → st.ar[2 * slot + k]? = some none) ∧ (b ≠ none → st.bx[slot]? = some none) ∧ ∀ (st' : St) (R' : Type) (K' : PV → St → Option R'), AgrA st st' o.op.operands.toList → Slot st st' slot As.length → opK P sg ih slot o st' K' = K' v (fin slot l b As st') := by
  unfold quiet at ho
  by_cases hr : reader o = true
  · rw [opK_reader hr] at h
    cases hv : rdV P o st with
    | none => rw [hv] at h; cases h
    | some v =>
      rw [hv] at h
      refine ⟨v, [], none, [], by simp, h, by simp, by simp, by simp, fun st' R' K' ha hs => ?_⟩
      rw [opK_reader hr, rdV_local hr ha.agr, hv]
      rfl
  · have hm : maker sg o = true := by
      cases h1 : reader o with
      | true => exact absurd h1 hr
      | false => rw [h1] at ho; simpa using ho
    exact opK_maker hm h
/-- One operation of a region, its guard looked at. -/
def stepK (P : Program) (sg : FuncId → Option Sh) (ih : FuncId → List AA → Option Res) (ops : List Oper) (slot : Nat) (o : Oper) (st : St) (K : St → Option R) : Option R :=
  wantedK ops o st (fun st => opK P sg ih slot o st fun v st1 => K (st1.put o.dst v)) (fun st => K (st.put o.dst (.tup [])))
theorem regK_cons {sg : FuncId → Option Sh} {ih : FuncId → List AA → Option Res} {ops l : List Oper} {slot : Nat} {K : St → Option R} :
    regK P sg ih ops slot (o :: l) st K = stepK P sg ih ops slot o st fun st1 => regK P sg ih ops (slot + 1) l st1 K := rfl
theorem put_same {d : Nat} {v : PV} (h : st.get d = v) (hv : v ≠ .a (.c .unk)) : st.put (some d) v = st := by
  simp only [St.put]
  have : st.tm.set d v = st.tm := by
    apply List.ext_getElem?
    intro i
    rw [List.getElem?_set]
    split
    · rename_i e
      subst e
      unfold St.get at h
      rw [List.getD_eq_getElem?_getD] at h
      split
      · rename_i hlt
        rw [List.getElem?_eq_getElem hlt] at h ⊢
        exact congrArg some h.symm
      · rename_i hlt
        rw [List.getElem?_eq_none (by omega)]
    · rfl
  rw [this]
theorem stepK_quiet {sg : FuncId → Option Sh} {ih : FuncId → List AA → Option Res} {ops : List Oper} {slot : Nat} {K : St → Option R} (ho : quiet sg o = true) (h : stepK P sg ih ops slot o st K = some r) :
    ∃ v l b As, As.length ≤ 2 ∧ K ((fin slot l b As st).put o.dst v) = some r ∧ (∀ i ∈ l, Nm st (looks ops o) i ∧ ∃ A, st.ar.getD i none = some A) ∧ (∀ k, k < As.length → st.ar[2 * slot + k]? = some none) ∧ (b ≠ none → st.bx[slot]? = some none) ∧ ∀ (st' : St) (R' : Type) (K' : St → Option R'), AgrA st st' (looks ops o) → Slot st st' slot As.length → stepK P sg ih ops slot o st' K' = K' ((fin slot l b As st').put o.dst v) := by
  have yes : ∀ {st1 : St}, st1 = st → (opK P sg ih slot o st1 fun v st1 => K (st1.put o.dst v)) = some r →
      ∃ v l b As, As.length ≤ 2 ∧ K ((fin slot l b As st).put o.dst v) = some r ∧ (∀ i ∈ l, Nm st (looks ops o) i ∧ ∃ A, st.ar.getD i none = some A) ∧ (∀ k, k < As.length → st.ar[2 * slot + k]? = some none) ∧ (b ≠ none → st.bx[slot]? = some none) ∧ ∀ (st' : St) (R' : Type) (K' : St → Option R'), AgrA st st' (looks ops o) → Slot st st' slot As.length → (opK P sg ih slot o st' fun v st1 => K' (st1.put o.dst v)) = K' ((fin slot l b As st').put o.dst v) := by
    rintro st1 rfl h
    obtain ⟨v, l, b, As, h0, h1, g1, f1, f2, h2⟩ := opK_quiet ho h
    exact ⟨v, l, b, As, h0, h1, fun i hi => by
      obtain ⟨⟨x, hx, k⟩, hA⟩ := g1 i hi
      exact ⟨⟨x, List.mem_append.2 (.inr hx), k⟩, hA⟩, f1, f2, fun st' R' K' ha hs => h2 st' R' _ ⟨fun x hx => ha.op x (by unfold looks; exact List.mem_append.2 (.inr hx)), fun x hx => ha.mem x (by unfold looks; exact List.mem_append.2 (.inr hx))⟩ hs⟩
  unfold stepK wantedK at h
  split at h
  · rename_i hg
    obtain ⟨v, l, b, As, h0, h1, g1, f1, f2, h2⟩ := yes rfl h
    refine ⟨v, l, b, As, h0, h1, g1, f1, f2, fun st' R' K' ha hs => ?_⟩
    unfold stepK wantedK
    rw [hg]
    exact h2 st' R' K' ha hs
  · rename_i j want hg
    split at h
    · rename_i oj hj
      split at h
      · rename_i d hd
        have hmem : Operand.tmp d ∈ looks ops o := by
          simp [looks, hg, hj, hd]
        have hget : ∀ st', AgrA st st' (looks ops o) → st'.get d = st.get d := fun st' ha => ha.op _ hmem
        split at h
        · rename_i b hb
          split at h
          · rename_i hw
            have hbw : st.get d = .one (.bool want) := by rw [hb, hw]
            obtain ⟨v, l, b', As, h0, h1, g1, f1, f2, h2⟩ := yes (put_same hbw (by simp)) h
            refine ⟨v, l, b', As, h0, h1, g1, f1, f2, fun st' R' K' ha hs => ?_⟩
            unfold stepK wantedK
            rw [hg]; dsimp only
            rw [hj]; dsimp only
            rw [hd]; dsimp only
            rw [hget st' ha, hb]; dsimp only
            rw [if_pos hw, put_same ((hget st' ha).trans hbw) (by simp)]
            exact h2 st' R' K' ha hs
          · rename_i hw
            have hbw : st.get d = .one (.bool !want) := by rw [hb]; cases b <;> cases want <;> simp_all
            rw [put_same hbw (by simp)] at h
            refine ⟨.tup [], [], none, [], by simp, h, by simp, by simp, by simp, fun st' R' K' ha hs => ?_⟩
            unfold stepK wantedK
            rw [hg]; dsimp only
            rw [hj]; dsimp only
            rw [hd]; dsimp only
            rw [hget st' ha, hb]; dsimp only
            rw [if_neg hw, put_same ((hget st' ha).trans hbw) (by simp)]
            rfl
        · rename_i xs hb
          refine ⟨.tup [], [], none, [], by simp, h, by simp, by simp, by simp, fun st' R' K' ha hs => ?_⟩
          unfold stepK wantedK
          rw [hg]; dsimp only
          rw [hj]; dsimp only
          rw [hd]; dsimp only
          rw [hget st' ha, hb]
          rfl
        · cases h
      · rename_i hd
        refine ⟨.tup [], [], none, [], by simp, h, by simp, by simp, by simp, fun st' R' K' ha hs => ?_⟩
        unfold stepK wantedK
        rw [hg]; dsimp only
        rw [hj]; dsimp only
        rw [hd]
        rfl
    · rename_i hj
      refine ⟨.tup [], [], none, [], by simp, h, by simp, by simp, by simp, fun st' R' K' ha hs => ?_⟩
      unfold stepK wantedK
      rw [hg]; dsimp only
      rw [hj]
      rfl
end Go.Eng
end
section
set_option linter.unusedVariables false
set_option linter.unusedSimpArgs false
namespace Go.Eng
variable {R : Type} {P : Program} {st st' : St} {r : R} {o : Oper} {K : PV → St → Option R}

theorem mark_get (k : Nat) : ∀ (l : List Nat) (st : St), (mark l st).ar[k]? = (st.ar[k]?).map fun z => if k ∈ l then frzO z else z
  | [], st => by simp [mark]
  | i :: l, st => by
    rw [mark, mark_get k l, mark1_some, Option.map_map]
    congr 1
    funext z
    simp only [Function.comp]
    by_cases h1 : i = k
    · subst h1
      by_cases h2 : i ∈ l <;> simp [h2, frzO_frzO]
    · by_cases h2 : k ∈ l <;> simp [h1, h2, Ne.symm h1]
theorem setRs_tm : ∀ (As : List AR) (n : Nat) (st : St), (setRs n As st).tm = st.tm
  | [], n, st => rfl
  | A :: As, n, st => setRs_tm As (n + 1) _
theorem setRs_bx : ∀ (As : List AR) (n : Nat) (st : St), (setRs n As st).bx = st.bx
  | [], n, st => rfl
  | A :: As, n, st => setRs_bx As (n + 1) _
theorem setRs_get (k : Nat) : ∀ (As : List AR) (n : Nat) (st : St), (setRs n As st).ar[k]? = (st.ar[k]?).map fun z => if n ≤ k ∧ k < n + As.length then As[k - n]? else z
  | [], n, st => by
    have : ∀ z : Option AR, (if n ≤ k ∧ k < n + ([] : List AR).length then ([] : List AR)[k - n]? else z) = z := fun z => by
      rw [if_neg]; simp
    simp only [setRs, this, Option.map_id']
  | A :: As, n, st => by
    rw [setRs, setRs_get k As (n + 1)]
    simp only [St.setAr, List.getElem?_set]
    by_cases h1 : n = k
    · subst h1
      cases hq : st.ar[n]? with
      | none =>
        have : ¬ n < st.ar.length := by
          intro h; rw [List.getElem?_eq_getElem h] at hq; cases hq
        simp [this]
      | some z =>
        have := get_lt hq
        simp [this]
        omega
    · rw [if_neg h1]
      congr 1
      funext z
      by_cases h2 : n + 1 ≤ k ∧ k < n + 1 + As.length
      · rw [if_pos h2, if_pos (by simp; omega), show k - n = (k - (n + 1)) + 1 by omega, List.getElem?_cons_succ]
      · rw [if_neg h2, if_neg (by simp; omega)]
def F (slot : Nat) (l : List Nat) (As : List AR) (k : Nat) (z : Option AR) : Option AR := if 2 * slot ≤ k ∧ k < 2 * slot + As.length then As[k - 2 * slot]? else if k ∈ l then frzO z else z
theorem fin_tm {slot : Nat} {l : List Nat} {b : Option (List PC)} {As : List AR} : (fin slot l b As st).tm = st.tm := by
  unfold fin
  rw [setRs_tm]
  cases b <;> simp [setB, St.setBx, mark_tm]
theorem fin_ar {slot : Nat} {l : List Nat} {b : Option (List PC)} {As : List AR} (k : Nat) : (fin slot l b As st).ar[k]? = (st.ar[k]?).map (F slot l As k) := by
  unfold fin
  rw [setRs_get]
  have : (setB slot b (mark l st)).ar = (mark l st).ar := by cases b <;> rfl
  rw [this, mark_get, Option.map_map]
  rfl
theorem fin_bx {slot : Nat} {l : List Nat} {b : Option (List PC)} {As : List AR} : (fin slot l b As st).bx = match b with | none => st.bx | some cs => st.bx.set slot (some cs) := by
  unfold fin
  rw [setRs_bx]
  cases b <;> simp [setB, St.setBx, mark_bx]
theorem St.ext' {s t : St} (h1 : s.tm = t.tm) (h2 : s.bx = t.bx) (h3 : ∀ k : Nat, s.ar[k]? = t.ar[k]?) : s = t := by
  obtain ⟨a, b, c⟩ := s
  obtain ⟨a', b', c'⟩ := t
  simp only at h1 h2 h3
  subst h1; subst h2
  rw [List.ext_getElem? h3]
theorem put_ar (d : Option Tmp) (v : PV) : (st.put d v).ar = st.ar := by cases d <;> rfl
theorem put_bx (d : Option Tmp) (v : PV) : (st.put d v).bx = st.bx := by cases d <;> rfl
/-- Two quiet steps, in either order. -/
theorem eff_comm {si sj : Nat} {li lj : List Nat} {bi bj : Option (List PC)} {Ai Aj : List AR} {di dj : Option Tmp} {vi vj : PV} (hs : si ≠ sj) (hli : Ai.length ≤ 2) (hlj : Aj.length ≤ 2)
    (hi : ∀ k, k < Ai.length → 2 * si + k ∉ lj) (hj : ∀ k, k < Aj.length → 2 * sj + k ∉ li) (hd : ∀ d, di = some d → dj ≠ some d) :
    (fin sj lj bj Aj ((fin si li bi Ai st).put di vi)).put dj vj = (fin si li bi Ai ((fin sj lj bj Aj st).put dj vj)).put di vi := by
  refine St.ext' ?_ ?_ fun k => ?_
  · cases di with
    | none => cases dj <;> simp [St.put, fin_tm]
    | some d =>
      cases dj with
      | none => simp [St.put, fin_tm]
      | some d' =>
        have : d ≠ d' := fun e => hd d rfl (by rw [e])
        simp only [St.put, fin_tm]
        exact (List.set_comm _ _ this)
  · rw [put_bx, put_bx, fin_bx, fin_bx, put_bx, put_bx, fin_bx, fin_bx]
    cases bi <;> cases bj <;> first | rfl | exact List.set_comm _ _ hs
  · rw [put_ar, put_ar, fin_ar, fin_ar, put_ar, put_ar, fin_ar, fin_ar, Option.map_map, Option.map_map]
    congr 1
    funext z
    simp only [Function.comp, F]
    by_cases h1 : 2 * si ≤ k ∧ k < 2 * si + Ai.length
    · have h2 : ¬ (2 * sj ≤ k ∧ k < 2 * sj + Aj.length) := by omega
      have h3 : k ∉ lj := by
        have := hi (k - 2 * si) (by omega)
        rwa [show 2 * si + (k - 2 * si) = k by omega] at this
      simp [h1, h2, h3]
    · by_cases h2 : 2 * sj ≤ k ∧ k < 2 * sj + Aj.length
      · have h3 : k ∉ li := by
          have := hj (k - 2 * sj) (by omega)
          rwa [show 2 * sj + (k - 2 * sj) = k by omega] at this
        simp [h1, h2, h3]
      · by_cases h3 : k ∈ li <;> by_cases h4 : k ∈ lj <;> simp [h1, h2, h3, h4, frzO_frzO]
end Go.Eng
end
section
set_option linter.unusedVariables false
set_option linter.unusedSimpArgs false
namespace Go.Eng
variable {R : Type} {P : Program} {X : Ctx} {E : Env} {ok : Nat → Prop} {a : Act} {w : World} {st st' : St} {r : R} {o : Oper} {K : PV → St → Option R}

/-- What the variables name is there. -/
def WF (st : St) : Prop := ∀ x pa, st.op x = .a pa → ∀ p ∈ paCells pa, (∀ k, nameR p = some k → ∃ A, st.ar[k]? = some (some A)) ∧ ∀ b off, p = .box b off → ∃ cs, st.bx[b]? = some (some cs)
theorem Inv.wf (hI : Inv X E ok st a w) : WF st := by
  intro x pa hx p hp
  have hv := hI.op x
  rw [hx] at hv
  obtain ⟨v, hr⟩ : ∃ v, RelC w E ok st p v := by
    cases pa with
    | c q =>
      have : p = q := by simpa [paCells] using hp
      subst this
      exact ⟨_, hv⟩
    | agg ps =>
      obtain ⟨vs, _, h1, h2⟩ := hv
      obtain ⟨j, hj⟩ := List.getElem?_of_mem hp
      have hlt : j < vs.length := by rw [← h1]; exact get_lt hj
      exact ⟨_, h2 j p _ hj (List.getElem?_eq_getElem hlt)⟩
  refine ⟨fun k hk => ?_, fun b off hb => ?_⟩
  · cases p with
    | own i ver =>
      injection hk with hk; subst hk
      obtain ⟨A, h1, _⟩ := hr
      exact ⟨A, h1⟩
    | view i ver off len =>
      injection hk with hk; subst hk
      obtain ⟨A, h1, _⟩ := hr
      exact ⟨A, h1⟩
    | arr i ver j off =>
      injection hk with hk; subst hk
      obtain ⟨A, h1, _⟩ := hr
      exact ⟨A, h1⟩
    | _ => cases hk
  · subst hb
    exact hr.1
theorem put_op {d : Option Tmp} {v : PV} {x : Operand} (h : ∀ t, d = some t → x ≠ .tmp t) : (st.put d v).op x = st.op x := by
  cases d with
  | none => rfl
  | some d =>
    cases x with
    | tmp t =>
      have : d ≠ t := fun e => h d rfl (by rw [e])
      simp only [St.op, St.get, St.put, List.getD_eq_getElem?_getD]
      rw [List.getElem?_set_ne this]
    | _ => rfl
theorem fin_op {slot : Nat} {l : List Nat} {b : Option (List PC)} {As : List AR} (x : Operand) : (fin slot l b As st).op x = st.op x := by cases x <;> simp [St.op, St.get, fin_tm]
theorem eff_agr (hwf : WF st) {slot : Nat} {l : List Nat} {b : Option (List PC)} {As : List AR} {d : Option Tmp} {v : PV} {xs : List Operand} (hfree : ∀ k, k < As.length → st.ar[2 * slot + k]? = some none) (hb : b ≠ none → st.bx[slot]? = some none)
    (hx : ∀ x ∈ xs, ∀ t, d = some t → x ≠ .tmp t) : AgrA ((fin slot l b As st).put d v) st xs ∧ AgrA st ((fin slot l b As st).put d v) xs := by
  have hop : ∀ x ∈ xs, ((fin slot l b As st).put d v).op x = st.op x := fun x hm => (put_op (hx x hm)).trans (fin_op x)
  have har : ∀ k A, st.ar[k]? = some (some A) → frzO (((fin slot l b As st).put d v).ar.getD k none) = frzO (st.ar.getD k none) := fun k A hA => by
    rw [put_ar, List.getD_eq_getElem?_getD, List.getD_eq_getElem?_getD, fin_ar, hA]
    simp only [Option.map_some, Option.getD_some, F]
    have : ¬ (2 * slot ≤ k ∧ k < 2 * slot + As.length) := fun h => by
      have := hfree (k - 2 * slot) (by omega)
      rw [show 2 * slot + (k - 2 * slot) = k by omega, hA] at this
      cases this
    rw [if_neg this]
    split
    · rw [frzO_frzO]
    · rfl
  have hbx : ∀ k cs, st.bx[k]? = some (some cs) → ((fin slot l b As st).put d v).bx.getD k none = st.bx.getD k none := fun k cs hc => by
    rw [put_bx, fin_bx]
    cases b with
    | none => rfl
    | some ds =>
      have : slot ≠ k := by
        rintro rfl
        rw [hb (by simp)] at hc
        cases hc
      simp only [List.getD_eq_getElem?_getD]
      rw [List.getElem?_set_ne this]
  have same : ∀ x, x ∈ xs → ∀ pa, st.op x = .a pa → ∀ p ∈ paCells pa, SameP st ((fin slot l b As st).put d v) p ∧ SameP ((fin slot l b As st).put d v) st p := by
    intro x hm pa hpa p hp
    obtain ⟨h1, h2⟩ := hwf x pa hpa p hp
    cases p with
    | own k ver => obtain ⟨A, hA⟩ := h1 k rfl; exact ⟨har k A hA, (har k A hA).symm⟩
    | view k ver off len => obtain ⟨A, hA⟩ := h1 k rfl; exact ⟨har k A hA, (har k A hA).symm⟩
    | arr k ver j off => obtain ⟨A, hA⟩ := h1 k rfl; exact ⟨har k A hA, (har k A hA).symm⟩
    | box k off => obtain ⟨cs, hc⟩ := h2 k off rfl; exact ⟨hbx k cs hc, (hbx k cs hc).symm⟩
    | _ => exact ⟨trivial, trivial⟩
  exact ⟨⟨fun x hm => (hop x hm).symm, fun x hm pa hpa p hp => (same x hm pa (by rw [← hop x hm]; exact hpa) p hp).2⟩, ⟨hop, fun x hm pa hpa p hp => (same x hm pa hpa p hp).1⟩⟩
/-- May the two steps be done in either order? -/
structure Apart (ops : List Oper) (i j : Oper) : Prop where
  ij : ∀ d, i.dst = some d → Operand.tmp d ∉ looks ops j
  ji : ∀ d, j.dst = some d → Operand.tmp d ∉ looks ops i
  dd : ∀ d, i.dst = some d → j.dst ≠ some d
theorem swap {sg : FuncId → Option Sh} {ih : FuncId → List AA → Option Res} {ops : List Oper} {si sj : Nat} {i j : Oper} {K : St → Option R} (hwf : WF st) (hi : quiet sg i = true) (hj : quiet sg j = true) (hs : si ≠ sj) (hap : Apart ops i j)
    (h : (stepK P sg ih ops si i st fun st1 => stepK P sg ih ops sj j st1 K) = some r) : (stepK P sg ih ops sj j st fun st1 => stepK P sg ih ops si i st1 K) = some r := by
  obtain ⟨vi, li, bi, Ai, hAi, h1, gi, fi, fbi, hli⟩ := stepK_quiet hi h
  obtain ⟨vj, lj, bj, Aj, hAj, h2, gj, fj, fbj, hlj⟩ := stepK_quiet hj h1
  have hxj : ∀ x ∈ looks ops j, ∀ t, i.dst = some t → x ≠ .tmp t := fun x hx t ht e => hap.ij t ht (e ▸ hx)
  have hxi : ∀ x ∈ looks ops i, ∀ t, j.dst = some t → x ≠ .tmp t := fun x hx t ht e => hap.ji t ht (e ▸ hx)
  obtain ⟨a1, _⟩ := eff_agr (l := li) (b := bi) (As := Ai) (d := i.dst) (v := vi) hwf fi fbi hxj
  -- what j's places are at st
  have fj0 : ∀ k, k < Aj.length → st.ar[2 * sj + k]? = some none := fun k hk => by
    have := fj k hk
    rw [put_ar, fin_ar] at this
    cases hq : st.ar[2 * sj + k]? with
    | none => rw [hq] at this; cases this
    | some z =>
      rw [hq] at this
      simp only [Option.map_some, Option.some.injEq, F] at this
      rw [if_neg (by omega)] at this
      cases z with
      | none => rfl
      | some A => split at this <;> cases this
  have fbj0 : bj ≠ none → st.bx[sj]? = some none := fun hb => by
    have := fbj hb
    rw [put_bx, fin_bx] at this
    cases bi with
    | none => exact this
    | some cs => rw [List.getElem?_set_ne hs] at this; exact this
  have hslot : Slot ((fin si li bi Ai st).put i.dst vi) st sj Aj.length := by
    refine ⟨?_, fun k hk => by rw [fj k hk, fj0 k hk]⟩
    rw [put_bx, fin_bx]
    cases bi with
    | none => rfl
    | some cs => rw [List.getElem?_set_ne hs]
  rw [hlj st R (fun st1 => stepK P sg ih ops si i st1 K) a1 hslot]
  obtain ⟨_, a2⟩ := eff_agr (l := lj) (b := bj) (As := Aj) (d := j.dst) (v := vj) hwf fj0 fbj0 hxi
  have hslot2 : Slot st ((fin sj lj bj Aj st).put j.dst vj) si Ai.length := by
    refine ⟨?_, fun k hk => ?_⟩
    · rw [put_bx, fin_bx]
      cases bj with
      | none => rfl
      | some cs => rw [List.getElem?_set_ne (Ne.symm hs)]
    · rw [put_ar, fin_ar, fi k hk]
      simp only [Option.map_some, F]
      rw [if_neg (by omega)]
      split <;> rfl
  rw [hli _ R K a2 hslot2]
  rw [← eff_comm hs hAi hAj ?_ ?_ hap.dd]
  · exact h2
  · intro k hk hm
    obtain ⟨⟨x, hx, pa, hpa, p, hp, hn⟩, _⟩ := gj _ hm
    have hpa' : st.op x = .a pa := by rw [a1.op x hx]; exact hpa
    obtain ⟨A, hA⟩ := (hwf x pa hpa' p hp).1 _ hn
    rw [fi k hk] at hA
    cases hA
  · intro k hk hm
    obtain ⟨⟨x, hx, pa, hpa, p, hp, hn⟩, _⟩ := gi _ hm
    obtain ⟨A, hA⟩ := (hwf x pa hpa p hp).1 _ hn
    rw [fj0 k hk] at hA
    cases hA
#print axioms swap
end Go.Eng
end
section
set_option linter.unusedVariables false
set_option linter.unusedSimpArgs false
namespace Go.Eng
variable {R : Type} {P : Program} {X : Ctx} {E : Env} {ok : Nat → Prop} {a : Act} {w : World} {st st' : St} {r : R} {o : Oper}

/-- There is a memory of that shape. -/
def Is (X : Ctx) (st : St) : Prop := ∃ E ok a w, Inv X E ok st a w
theorem goes_is {st1 : St} {v : PV} (h : Goes P X o st a w st1 v) : Is X (st1.put o.dst v) := by
  have h1 := h (fun _ _ => Is X (st1.put o.dst v)) (fun _ _ _ => False) (fun v' w' ⟨E', ok', i1, r1⟩ => ⟨E', ok', _, w', i1.put r1 o.dst⟩)
  unfold Oper.wp at h1
  generalize (execOp a.eval o).run P w = z at h1
  cases z with
  | ok n w' =>
    cases n <;> simp only [Oper.upon] at h1
    all_goals first | exact h1 | skip
    · obtain ⟨e, w'', fr, hR, _⟩ := h1 []
      cases e with
      | returned v => exact hR
      | panicked c => exact hR.elim
      | outgrown => obtain ⟨_, _, h⟩ := hR; exact h.elim
    · obtain ⟨v, w'', hR, _⟩ := h1 default []
      exact hR
  | halt x w' => cases x <;> simp only [Oper.upon] at h1
/-- A step, in the text's order or out of it. -/
theorem stepK_one {sg : FuncId → Option Sh} {ih : FuncId → List AA → Option Res} (hih : ObsOk P sg ∧ ∀ g as res, ih g as = some res → CallOk P g as res) {ops : List Oper} {slot : Nat} {K : St → Option R} (hI : Inv X E ok st a w) (ho : quiet sg o = true) (h : stepK P sg ih ops slot o st K = some r) :
    ∃ st1, Is X st1 ∧ K st1 = some r ∧ ∀ (R' : Type) (K' : St → Option R'), stepK P sg ih ops slot o st K' = K' st1 := by
  obtain ⟨v, l, b, As, _, h1, _, _, _, h2⟩ := stepK_quiet ho h
  have nat : ∀ (R' : Type) (K' : St → Option R'), stepK P sg ih ops slot o st K' = K' ((fin slot l b As st).put o.dst v) := fun R' K' =>
    h2 st R' K' ⟨fun _ _ => rfl, fun x _ pa _ p _ => by cases p <;> first | rfl | trivial⟩ ⟨rfl, fun _ _ => rfl⟩
  refine ⟨_, ?_, h1, nat⟩
  have hs := nat St some
  -- the step, with the state as its answer
  have yes : ∀ {st : St}, Inv X E ok st a w → (opK P sg ih slot o st fun v st1 => some (st1.put o.dst v)) = some ((fin slot l b As st).put o.dst v) → True := fun _ _ => trivial
  unfold stepK wantedK at hs
  have fire : ∀ {st0 s1 : St}, Inv X E ok st0 a w → (opK P sg ih slot o st0 fun v st1 => some (st1.put o.dst v)) = some s1 → Is X s1 := by
    intro st0 s1 hI h
    obtain ⟨v, st1, k1, k2⟩ := opK_sound hih hI h
    injection k1 with k1
    rw [← k1]
    exact goes_is k2
  have skip : ∀ {st0 s1 : St}, Inv X E ok st0 a w → some (st0.put o.dst (.tup [])) = some s1 → Is X s1 := by
    intro st0 s1 hI h
    injection h with h
    rw [← h]
    exact ⟨E, ok, _, w, hI.put (v := .tup []) (v' := undef) ⟨[], rfl, rfl, by simp⟩ o.dst⟩
  split at hs
  · exact fire hI hs
  · split at hs
    · split at hs
      · rename_i d hd
        split at hs
        · rename_i b0 hb
          split at hs
          · rename_i hw
            rw [put_same (v := .one (.bool _)) (by rw [hb, hw]) (by simp)] at hs
            exact fire hI hs
          · rename_i want _ _ _ _ hw
            rw [put_same (v := .one (.bool _)) (by rw [hb]; cases b0 <;> cases want <;> simp_all) (by simp)] at hs
            exact skip hI hs
        · exact skip hI hs
        · cases hs
      · exact skip hI hs
    · exact skip hI hs
end Go.Eng
end
section
set_option linter.unusedVariables false
set_option linter.unusedSimpArgs false
namespace Go.Eng
variable {R : Type} {P : Program} {X : Ctx} {E : Env} {ok : Nat → Prop} {a : Act} {w : World} {st st' : St} {r : R} {o : Oper}

def runD (P : Program) (sg : FuncId → Option Sh) (ih : FuncId → List AA → Option Res) (ops : List Oper) (base : Nat) : List (Nat × Oper) → St → (St → Option R) → Option R
  | [], st, K => K st
  | (p, o) :: rem, st, K => stepK P sg ih ops (base + p) o st fun st1 => runD P sg ih ops base rem st1 K
def number : Nat → List Oper → List (Nat × Oper)
  | _, [] => []
  | p, o :: l => (p, o) :: number (p + 1) l
theorem regK_runD {sg : FuncId → Option Sh} {ih : FuncId → List AA → Option Res} {ops : List Oper} {base : Nat} {K : St → Option R} : ∀ (l : List Oper) (p : Nat) (st : St), regK P sg ih ops (base + p) l st K = runD P sg ih ops base (number p l) st K
  | [], p, st => rfl
  | o :: l, p, st => by
    rw [regK_cons, number, runD]
    congr 1
    funext st1
    exact regK_runD l (p + 1) st1
/-- An operation is done ahead of some that stand before it. -/
theorem pull {sg : FuncId → Option Sh} {ih : FuncId → List AA → Option Res} (hih : ObsOk P sg ∧ ∀ g as res, ih g as = some res → CallOk P g as res) {ops : List Oper} {base : Nat} {K : St → Option R} {p : Nat} (ho : quiet sg o = true) : ∀ {pre post : List (Nat × Oper)} {st : St}, Is X st →
    (∀ x ∈ pre, x.1 ≠ p ∧ quiet sg x.2 = true ∧ Apart ops x.2 o) → runD P sg ih ops base (pre ++ (p, o) :: post) st K = some r → runD P sg ih ops base ((p, o) :: (pre ++ post)) st K = some r
  | [], post, st, hI, hp, h => h
  | (q, o') :: pre, post, st, hI, hp, h => by
    obtain ⟨E, ok, a, w, hI⟩ := hI
    obtain ⟨h1, h2, h3⟩ := hp _ (.head _)
    rw [List.cons_append, runD] at h
    obtain ⟨st1, i1, k1, k2⟩ := stepK_one hih hI h2 h
    have k3 := pull hih ho i1 (fun x hx => hp x (.tail _ hx)) k1
    rw [runD] at k3
    have k4 : (stepK P sg ih ops (base + q) o' st fun st1 => stepK P sg ih ops (base + p) o st1 fun st2 => runD P sg ih ops base (pre ++ post) st2 K) = some r := by
      rw [k2]; exact k3
    exact swap hI.wf h2 ho (by simp only at h1; omega) h3 k4
end Go.Eng
end
section
set_option linter.unusedVariables false
set_option linter.unusedSimpArgs false
namespace Go.Eng
variable {R : Type} {P : Program} {X : Ctx} {E : Env} {ok : Nat → Prop} {a : Act} {w : World} {st st' : St} {r : R} {o : Oper} {K : PV → St → Option R}

/-! ## Operations that write, beside operations that look at variables alone -/
/-- The same memory, other variables. -/
def St.tmd (st : St) (t : List PV) : St := { st with tm := t }
theorem tmd_op (t : List PV) (st st' : St) (x : Operand) : (st.tmd t).op x = (st'.tmd t).op x := by cases x <;> rfl
theorem tmd_sameP (t : List PV) (st : St) (p : PC) : SameP st (st.tmd t) p := by cases p <;> first | rfl | trivial
theorem mark_tmd (t : List PV) : ∀ (l : List Nat) (st : St), mark l (st.tmd t) = (mark l st).tmd t
  | [], st => rfl
  | i :: l, st => by
    rw [mark, mark]
    have : mark1 i (st.tmd t) = (mark1 i st).tmd t := by
      unfold mark1
      show (match st.ar.getD i none with | some A => _ | none => _) = _
      cases st.ar.getD i none <;> rfl
    rw [this, mark_tmd t l]
theorem frozenA_tmd {pa q : PA} {s : St} (h : st.frozenA pa = some (q, s)) : s.tm = st.tm ∧ s.bx = st.bx ∧ ∀ t, (st.tmd t).frozenA pa = some (q, s.tmd t) := by
  obtain ⟨l, rfl, _, h2⟩ := frozenA_local h
  exact ⟨mark_tm l st, mark_bx l st, fun t => by rw [h2 (st.tmd t) (fun p _ => tmd_sameP t st p), mark_tmd]⟩
theorem arr?_tmd (t : List PV) (i ver : Nat) : (st.tmd t).arr? i ver = st.arr? i ver := rfl
theorem argsOf_tmd : ∀ {lent : List Nat} {xs : List Operand} {n : Nat} {as : List AA} {st s : St}, argsOf lent st n xs = some (as, s) → s.tm = st.tm ∧ ∀ t, (∀ x ∈ xs, (st.tmd t).op x = st.op x) → argsOf lent (st.tmd t) n xs = some (as, s.tmd t)
  | lent, [], n, as, st, s, h => by
    simp only [argsOf, Option.some.injEq, Prod.mk.injEq] at h
    obtain ⟨rfl, rfl⟩ := h
    exact ⟨rfl, fun t _ => rfl⟩
  | lent, x :: xs, n, as, st, s, h => by
    unfold argsOf at h
    split at h
    · rename_i aa st1 ha
      split at h
      · rename_i as' st2 hr
        simp only [Option.some.injEq, Prod.mk.injEq] at h
        obtain ⟨rfl, rfl⟩ := h
        have one : st1.tm = st.tm ∧ ∀ t, (st.tmd t).op x = st.op x → argOf (lent.contains n) (st.tmd t) ((st.tmd t).op x) = some (aa, st1.tmd t) := by
          generalize st.op x = v at ha
          unfold argOf at ha
          split at ha
          · rename_i pa
            split at ha
            · rename_i hl
              split at ha
              · rename_i p
                split at ha
                · rename_i i ver
                  split at ha
                  · rename_i A hA
                    split at ha
                    · cases ha
                    · rename_i hz
                      simp only [Option.some.injEq, Prod.mk.injEq] at ha
                      obtain ⟨rfl, rfl⟩ := ha
                      refine ⟨rfl, fun t ht => ?_⟩
                      rw [ht]
                      unfold argOf
                      simp only [hl, if_true, arr?_tmd, hA, hz]
                      rfl
                  · cases ha
                · rename_i i ver off len
                  split at ha
                  · rename_i A hA
                    split at ha
                    · cases ha
                    · rename_i hz
                      simp only [Option.some.injEq, Prod.mk.injEq] at ha
                      obtain ⟨rfl, rfl⟩ := ha
                      refine ⟨rfl, fun t ht => ?_⟩
                      rw [ht]
                      unfold argOf
                      simp only [hl, if_true, arr?_tmd, hA, hz]
                      rfl
                  · cases ha
                · cases ha
              · cases ha
            · rename_i hl
              split at ha
              · rename_i q st3 hq
                simp only [Option.some.injEq, Prod.mk.injEq] at ha
                obtain ⟨rfl, rfl⟩ := ha
                obtain ⟨k1, _, k2⟩ := frozenA_tmd hq
                refine ⟨k1, fun t ht => ?_⟩
                rw [ht]
                unfold argOf
                simp only [hl, if_false, Bool.false_eq_true, k2 t]
              · cases ha
          · cases ha
        obtain ⟨o1, o2⟩ := one
        obtain ⟨k1, k2⟩ := argsOf_tmd hr
        refine ⟨k1.trans o1, fun t ht => ?_⟩
        unfold argsOf
        rw [o2 t (ht x (.head _))]
        dsimp only
        rw [k2 t (fun y hy => by
          rw [tmd_op t st1 st y, ht y (.tail _ hy)]
          cases y <;> simp [St.op, St.get, o1])]
      · cases h
    · cases h
theorem lentIx_tmd {lent : List Nat} {t : List PV} : ∀ {xs : List Operand} {n : Nat}, (∀ x ∈ xs, (st.tmd t).op x = st.op x) → lentIx lent (st.tmd t) n xs = lentIx lent st n xs
  | [], n, _ => rfl
  | x :: xs, n, h => by
    unfold lentIx
    rw [h x (.head _), lentIx_tmd (fun y hy => h y (.tail _ hy))]
theorem lentPos_tmd {lent : List Nat} {t : List PV} : ∀ {xs : List Operand} {n : Nat}, (∀ x ∈ xs, (st.tmd t).op x = st.op x) → lentPos lent (st.tmd t) n xs = lentPos lent st n xs
  | [], n, _ => rfl
  | x :: xs, n, h => by
    unfold lentPos
    rw [h x (.head _), lentPos_tmd (fun y hy => h y (.tail _ hy))]
theorem lentOk_tmd {t : List PV} : ∀ {l : List Nat}, lentOk (st.tmd t) l = lentOk st l
  | [] => rfl
  | i :: l => by
    unfold lentOk
    rw [lentOk_tmd (l := l)]; rfl
theorem backOf_tmd : ∀ {lent : List Nat} {xs : List Operand} {n : Nat} {ss : List SL} {st s : St}, backOf lent st n xs ss = some s → s.tm = st.tm ∧ ∀ t, (∀ x ∈ xs, (st.tmd t).op x = st.op x) → backOf lent (st.tmd t) n xs ss = some (s.tmd t)
  | lent, [], n, [], st, s, h => by
    simp only [backOf, Option.some.injEq] at h
    subst h
    exact ⟨rfl, fun t _ => rfl⟩
  | lent, [], n, _ :: _, st, s, h => by simp [backOf] at h
  | lent, x :: xs, n, ss, st, s, h => by
    unfold backOf at h
    by_cases hc : lent.contains n = true
    · rw [if_pos hc] at h
      cases ss with
      | nil => cases h
      | cons s0 ss =>
        dsimp only at h
        split at h
        · rename_i i ver hx
          split at h
          · rename_i A hA
            split at h
            · rename_i hcc
              obtain ⟨k1, k2⟩ := backOf_tmd h
              refine ⟨k1, fun t ht => ?_⟩
              unfold backOf
              rw [if_pos hc]
              dsimp only
              rw [ht x (.head _), hx]
              dsimp only
              rw [arr?_tmd, hA]
              dsimp only
              rw [dif_pos hcc]
              exact k2 t (fun y hy => (tmd_op t _ st y).trans ((ht y (.tail _ hy)).trans (by cases y <;> rfl)))
            · cases h
          · cases h
        · rename_i i ver off len hx
          split at h
          · rename_i A hA
            split at h
            · rename_i hcc
              obtain ⟨k1, k2⟩ := backOf_tmd h
              refine ⟨k1, fun t ht => ?_⟩
              unfold backOf
              rw [if_pos hc]
              dsimp only
              rw [ht x (.head _), hx]
              dsimp only
              rw [arr?_tmd, hA]
              dsimp only
              rw [dif_pos hcc]
              exact k2 t (fun y hy => (tmd_op t _ st y).trans ((ht y (.tail _ hy)).trans (by cases y <;> rfl)))
            · cases h
          · cases h
        · cases h
    · rw [if_neg hc] at h
      obtain ⟨k1, k2⟩ := backOf_tmd h
      refine ⟨k1, fun t ht => ?_⟩
      unfold backOf
      rw [if_neg hc]
      exact k2 t (fun y hy => ht y (.tail _ hy))
theorem inOf_tmd : ∀ {rs : List RA} {n : Nat} {xs : List PA} {st s : St}, inOf st n rs = some (xs, s) → s.tm = st.tm ∧ ∀ t, inOf (st.tmd t) n rs = some (xs, s.tmd t)
  | [], n, xs, st, s, h => by
    simp only [inOf, Option.some.injEq, Prod.mk.injEq] at h
    obtain ⟨rfl, rfl⟩ := h
    exact ⟨rfl, fun t => rfl⟩
  | .v x :: rs, n, xs, st, s, h => by
    simp only [inOf] at h
    split at h
    · rename_i l st1 h1
      simp only [Option.some.injEq, Prod.mk.injEq] at h
      obtain ⟨rfl, rfl⟩ := h
      obtain ⟨k1, k2⟩ := inOf_tmd h1
      exact ⟨k1, fun t => by simp only [inOf, k2 t]⟩
    · cases h
  | .fresh k l :: rs, n, xs, st, s, h => by
    simp only [inOf] at h
    split at h
    · rename_i st0 h0
      obtain ⟨hn, rfl⟩ := newAr_some h0
      split at h
      · rename_i xs' st1 h1
        simp only [Option.some.injEq, Prod.mk.injEq] at h
        obtain ⟨rfl, rfl⟩ := h
        obtain ⟨k1, k2⟩ := inOf_tmd h1
        refine ⟨k1, fun t => ?_⟩
        have : (st.tmd t).newAr n ⟨k, l, 0, false, false⟩ = some ((st.setAr n ⟨k, l, 0, false, false⟩).tmd t) := by
          unfold St.newAr
          show (match st.ar[n]? with | some none => _ | _ => _) = _
          rw [hn]; rfl
        simp only [inOf, this, k2 t]
      · cases h
    · cases h
theorem opK_tmd {sg : FuncId → Option Sh} {ih : FuncId → List AA → Option Res} {slot : Nat} (ho : writer sg o = true) (h : opK P sg ih slot o st K = some r) :
    ∃ u s, s.tm = st.tm ∧ K u s = some r ∧ ∀ (t : List PV) (R' : Type) (K' : PV → St → Option R'), (∀ x ∈ o.op.operands.toList, (st.tmd t).op x = st.op x) → opK P sg ih slot o (st.tmd t) K' = K' u (s.tmd t) := by
  unfold writer at ho
  unfold opK at h
  split at ho
  · rename_i T y x hk
    rw [hk] at h ⊢; dsimp only at h
    split at h
    · rename_i p pa n hy hx hn
      split at h
      · rename_i q st1 hq
        obtain ⟨q1, q2, q3⟩ := frozenA_tmd hq
        split at h
        · rename_i hlen
          split at h
          · rename_i b off
            split at h
            · rename_i cs hb
              split at h
              · rename_i hle
                refine ⟨_, _, ?_, h, fun t R' K' ha => ?_⟩
                · exact q1
                have e1 := ha y (by simp [Op.operands])
                have e2 := ha x (by simp [Op.operands])
                unfold opK
                rw [hk]; dsimp only
                rw [e1, e2, hy, hx, hn]; dsimp only
                rw [q3 t]; dsimp only
                rw [if_pos hlen]
                have : (st1.tmd t).box? b = some cs := hb
                rw [this]; dsimp only
                rw [if_pos hle]; rfl
              · cases h
            · cases h
          · rename_i i ver j off
            split at h
            · rename_i A hA
              split at h
              · cases h
              · rename_i hz
                split at h
                · rename_i hle
                  split at h
                  · rename_i z hdec
                    refine ⟨_, _, ?_, h, fun t R' K' ha => ?_⟩
                    · exact q1
                    have e1 := ha y (by simp [Op.operands])
                    have e2 := ha x (by simp [Op.operands])
                    unfold opK
                    rw [hk]; dsimp only
                    rw [e1, e2, hy, hx, hn]; dsimp only
                    rw [q3 t]; dsimp only
                    rw [if_pos hlen, arr?_tmd, hA]; dsimp only
                    rw [if_neg hz, if_pos hle, hdec]; rfl
                  · cases h
                · cases h
            · cases h
          · cases h
        · cases h
      · cases h
    · cases h
  · rename_i c hk
    rw [hk] at h ⊢; dsimp only at h
    have hsub : ∀ x ∈ c.args.toList, x ∈ (Op.call c).operands.toList := fun x hx => by
      simp only [Op.operands, Call.operands]
      split <;> simp_all
    split at ho
    · rename_i g hc
      rw [hc] at h; dsimp only at h
      split at ho
      · rename_i sh hsg
        have hob : sh.obj = none := Option.isNone_iff_eq_none.1 ho
        unfold callK at h
        rw [hsg] at h; dsimp only at h
        rw [hob] at h; dsimp only at h
        split at h
        · cases h
        · rename_i as st0 has
          split at h
          · rename_i hcond
            rw [lentPosK_eq] at h
            split at h
            · rename_i hpos
              cases hres : ih g (pinAs sh.pin as) with
              | none => rw [hres] at h; cases h
              | some res =>
                rw [hres] at h
                simp only [callT] at h
                split at h
                · rename_i x hdec
                  split at h
                  · cases h
                  · rename_i st2 hb
                    split at h
                    · rename_i vs st3 hin
                      obtain ⟨a1, a2⟩ := argsOf_tmd has
                      have b0 : (if sh.keeps = true then st0 else st).tm = st.tm := by split; exact a1; rfl
                      obtain ⟨b1, b2⟩ := backOf_tmd hb
                      obtain ⟨c1, c2⟩ := inOf_tmd hin
                      refine ⟨_, _, c1.trans (b1.trans b0), h, fun t R' K' ha => ?_⟩
                      have ha' : ∀ x ∈ c.args.toList, (st.tmd t).op x = st.op x := fun x hx => ha x (hsub x hx)
                      unfold opK
                      rw [hk]; dsimp only
                      rw [hc]; dsimp only
                      unfold callK
                      rw [hsg]; dsimp only
                      rw [hob]; dsimp only
                      rw [a2 t ha']; dsimp only
                      have e1 : (lentOk (st0.tmd t) (lentIx sh.lent (st.tmd t) 0 c.args.toList) && (sh.keeps || noSl sh.rs)) = true := by
                        rw [lentIx_tmd ha', lentOk_tmd]; exact hcond
                      rw [if_pos e1, lentPosK_eq, lentPos_tmd ha', if_pos hpos, hres]
                      simp only [callT, hdec]
                      have e2 : (if sh.keeps = true then st0.tmd t else st.tmd t) = (if sh.keeps = true then st0 else st).tmd t := by split <;> rfl
                      rw [e2, b2 t (fun y hy => by
                        rw [tmd_op t _ st y, ha' y hy]
                        cases y <;> simp [St.op, St.get, b0])]
                      dsimp only
                      rw [c2 t]
                    · cases h
                · cases h
            · cases h
          · cases h
      · cases ho
    · rename_i hc
      rw [hc] at h; dsimp only at h
      unfold appK at h
      split at h
      · rename_i s x t u hxs hts
        split at h
        · rename_i htu
          split at h
          · rename_i e he
            split at h
            · rename_i cd hcd
              split at h
              · rename_i hzo
                split at h
                · rename_i q hx
                  split at h
                  · rename_i ys hys
                    split at h
                    · rename_i hcc
                      split at h
                      · rename_i hs
                        split at h
                        · rename_i st1 hn
                          obtain ⟨hf, rfl⟩ := newAr_some hn
                          split at h
                          · rename_i hle
                            refine ⟨_, _, ?_, h, fun t' R' K' ha => ?_⟩
                            · rfl
                            have e1 := ha s (hsub s (by rw [hxs]; simp))
                            have e2 := ha x (hsub x (by rw [hxs]; simp))
                            unfold opK
                            rw [hk]; dsimp only
                            rw [hc]; dsimp only
                            unfold appK
                            rw [hxs, hts]; dsimp only
                            rw [if_pos htu, he]; dsimp only
                            rw [hcd]; dsimp only
                            rw [if_pos hzo, e2, hx]; dsimp only
                            have : (st.tmd t').sl? q = some ys := by rw [(tmd_sameP t' st q).sl]; exact hys
                            rw [this]; dsimp only
                            rw [dif_pos hcc, e1, hs]; dsimp only
                            have : (st.tmd t').newAr (2 * slot) ⟨cd, hcc ▸ ys.l, 0, false, false⟩ = some ((st.setAr (2 * slot) ⟨cd, hcc ▸ ys.l, 0, false, false⟩).tmd t') := by
                              unfold St.newAr
                              show (match st.ar[2 * slot]? with | some none => _ | _ => _) = _
                              rw [hf]; rfl
                            rw [this]; dsimp only
                            rw [if_pos hle]
                          · cases h
                        · cases h
                      · rename_i i ver hs
                        split at h
                        · rename_i A hA
                          split at h
                          · cases h
                          · rename_i hz
                            split at h
                            · rename_i hcc2
                              split at h
                              · rename_i hle
                                refine ⟨_, _, ?_, h, fun t' R' K' ha => ?_⟩
                                · rfl
                                have e1 := ha s (hsub s (by rw [hxs]; simp))
                                have e2 := ha x (hsub x (by rw [hxs]; simp))
                                unfold opK
                                rw [hk]; dsimp only
                                rw [hc]; dsimp only
                                unfold appK
                                rw [hxs, hts]; dsimp only
                                rw [if_pos htu, he]; dsimp only
                                rw [hcd]; dsimp only
                                rw [if_pos hzo, e2, hx]; dsimp only
                                have : (st.tmd t').sl? q = some ys := by rw [(tmd_sameP t' st q).sl]; exact hys
                                rw [this]; dsimp only
                                rw [dif_pos hcc, e1, hs]; dsimp only
                                rw [arr?_tmd, hA]; dsimp only
                                rw [if_neg hz, dif_pos hcc2, if_pos hle]
                                rfl
                              · cases h
                            · cases h
                        · cases h
                      · cases h
                    · cases h
                  · cases h
                · cases h
              · cases h
            · cases h
          · cases h
        · cases h
      · cases h
    · cases ho
  · cases ho
end Go.Eng
end
section
set_option linter.unusedVariables false
set_option linter.unusedSimpArgs false
namespace Go.Eng
variable {R : Type} {P : Program} {X : Ctx} {E : Env} {ok : Nat → Prop} {a : Act} {w : World} {st st' : St} {r : R} {o : Oper} {K : PV → St → Option R}

theorem put_tmd (d : Tmp) (v : PV) (st : St) : st.put (some d) v = st.tmd (st.tm.set d v) := rfl
/-- A guarded operation comes to what the operation comes to, or to nothing. -/
theorem stepK_cases {sg : FuncId → Option Sh} {ih : FuncId → List AA → Option Res} {ops : List Oper} {slot : Nat} {K : St → Option R} (h : stepK P sg ih ops slot o st K = some r) :
    ((opK P sg ih slot o st fun v st1 => K (st1.put o.dst v)) = some r ∧ ∀ (st' : St) (R' : Type) (K' : St → Option R'), (∀ x ∈ looks ops o, st'.op x = st.op x) → stepK P sg ih ops slot o st' K' = opK P sg ih slot o st' fun v st1 => K' (st1.put o.dst v)) ∨
    (K (st.put o.dst (.tup [])) = some r ∧ ∀ (st' : St) (R' : Type) (K' : St → Option R'), (∀ x ∈ looks ops o, st'.op x = st.op x) → stepK P sg ih ops slot o st' K' = K' (st'.put o.dst (.tup []))) := by
  unfold stepK wantedK at h
  split at h
  · rename_i hg
    refine .inl ⟨h, fun st' R' K' _ => ?_⟩
    unfold stepK wantedK
    rw [hg]
  · rename_i j want hg
    split at h
    · rename_i oj hj
      split at h
      · rename_i d hd
        have hmem : Operand.tmp d ∈ looks ops o := by simp [looks, hg, hj, hd]
        have hget : ∀ st' : St, (∀ x ∈ looks ops o, st'.op x = st.op x) → st'.get d = st.get d := fun st' ha => ha _ hmem
        split at h
        · rename_i b hb
          split at h
          · rename_i hw
            have hbw : st.get d = .one (.bool want) := by rw [hb, hw]
            rw [put_same hbw (by simp)] at h
            refine .inl ⟨h, fun st' R' K' ha => ?_⟩
            unfold stepK wantedK
            rw [hg]; dsimp only
            rw [hj]; dsimp only
            rw [hd]; dsimp only
            rw [hget st' ha, hb]; dsimp only
            rw [if_pos hw, put_same ((hget st' ha).trans hbw) (by simp)]
          · rename_i hw
            have hbw : st.get d = .one (.bool !want) := by rw [hb]; cases b <;> cases want <;> simp_all
            rw [put_same hbw (by simp)] at h
            refine .inr ⟨h, fun st' R' K' ha => ?_⟩
            unfold stepK wantedK
            rw [hg]; dsimp only
            rw [hj]; dsimp only
            rw [hd]; dsimp only
            rw [hget st' ha, hb]; dsimp only
            rw [if_neg hw, put_same ((hget st' ha).trans hbw) (by simp)]
        · rename_i xs hb
          refine .inr ⟨h, fun st' R' K' ha => ?_⟩
          unfold stepK wantedK
          rw [hg]; dsimp only
          rw [hj]; dsimp only
          rw [hd]; dsimp only
          rw [hget st' ha, hb]
        · cases h
      · rename_i hd
        refine .inr ⟨h, fun st' R' K' ha => ?_⟩
        unfold stepK wantedK
        rw [hg]; dsimp only
        rw [hj]; dsimp only
        rw [hd]
    · rename_i hj
      refine .inr ⟨h, fun st' R' K' ha => ?_⟩
      unfold stepK wantedK
      rw [hg]; dsimp only
      rw [hj]
theorem looks_ops {ops : List Oper} {x : Operand} (h : x ∈ o.op.operands.toList) : x ∈ looks ops o := by
  unfold looks; exact List.mem_append.2 (.inr h)
theorem tpure_reader (h : tpure o = true) : reader o = true := by
  unfold tpure at h
  unfold reader
  split at h <;> simp_all
theorem rdV_tp (ho : tpure o = true) (h : ∀ x ∈ o.op.operands.toList, st'.op x = st.op x) : rdV P o st' = rdV P o st := by
  unfold tpure at ho
  unfold rdV opK
  split at ho
  · rename_i x hk; rw [hk] at h ⊢; dsimp only; rw [h x (by simp [Op.operands])]
  · rename_i x hk; rw [hk] at h ⊢; dsimp only; rw [h x (by simp [Op.operands])]
  · rename_i x i hk; rw [hk] at h ⊢; dsimp only; rw [h x (by simp [Op.operands])]
  · rename_i op t x y t' hk; rw [hk] at h ⊢; dsimp only; rw [h x (by simp [Op.operands]), h y (by simp [Op.operands])]
  · rename_i op t x hk; rw [hk] at h ⊢; dsimp only; rw [h x (by simp [Op.operands])]
  · cases ho
/-- An operation that only looks, guarded. -/
theorem stepK_rd {sg : FuncId → Option Sh} {ih : FuncId → List AA → Option Res} {ops : List Oper} {slot : Nat} {K : St → Option R} (ho : reader o = true) (h : stepK P sg ih ops slot o st K = some r) :
    ∃ v, K (st.put o.dst v) = some r ∧ ∀ (st' : St) (R' : Type) (K' : St → Option R'), ((∀ x ∈ looks ops o, st'.op x = st.op x) ∧ (tpure o = true ∨ Agr st st' o.op.operands.toList)) → stepK P sg ih ops slot o st' K' = K' (st'.put o.dst v) := by
  rcases stepK_cases h with ⟨h1, h2⟩ | ⟨h1, h2⟩
  · rw [opK_reader ho] at h1
    cases hv : rdV P o st with
    | none => rw [hv] at h1; cases h1
    | some v =>
      rw [hv] at h1
      refine ⟨v, h1, fun st' R' K' ha => ?_⟩
      rw [h2 st' R' K' ha.1, opK_reader ho]
      have : rdV P o st' = some v := by
        rw [← hv]
        rcases ha.2 with ht | hg
        · exact rdV_tp ht (fun x hx => ha.1 x (looks_ops hx))
        · exact rdV_local ho hg
      rw [this]; rfl
  · exact ⟨_, h1, fun st' R' K' ha => h2 st' R' K' ha.1⟩
theorem put_comm {d d' : Option Tmp} {v v' : PV} (h : ∀ c, d = some c → d' ≠ some c) : (st.put d v).put d' v' = (st.put d' v').put d v := by
  cases d with
  | none => cases d' <;> rfl
  | some c =>
    cases d' with
    | none => rfl
    | some c' =>
      have : c ≠ c' := fun e => h c rfl (by rw [e])
      simp only [St.put]
      rw [List.set_comm _ _ this]
/-- A writer, guarded. -/
theorem stepK_wr {sg : FuncId → Option Sh} {ih : FuncId → List AA → Option Res} {ops : List Oper} {slot : Nat} {K : St → Option R} (ho : writer sg o = true) (h : stepK P sg ih ops slot o st K = some r) :
    ∃ s, K s = some r ∧ (∀ x, (∀ d, o.dst = some d → x ≠ .tmp d) → s.op x = st.op x) ∧
      ∀ (d : Option Tmp) (v : PV) (R' : Type) (K' : St → Option R'), (∀ c, d = some c → o.dst ≠ some c ∧ Operand.tmp c ∉ looks ops o) → stepK P sg ih ops slot o (st.put d v) K' = K' (s.put d v) := by
  have same : ∀ (d : Option Tmp) (v : PV), (∀ c, d = some c → o.dst ≠ some c ∧ Operand.tmp c ∉ looks ops o) → ∀ x ∈ looks ops o, (st.put d v).op x = st.op x := fun d v hd x hx => by
    refine put_op (fun t ht e => ?_)
    exact (hd t ht).2 (e ▸ hx)
  rcases stepK_cases h with ⟨h1, h2⟩ | ⟨h1, h2⟩
  · obtain ⟨u, s, k1, k2, k3⟩ := opK_tmd ho h1
    refine ⟨_, k2, fun x hx => ?_, fun d v R' K' hd => ?_⟩
    · rw [put_op hx]
      cases x <;> simp [St.op, St.get, k1]
    · rw [h2 _ R' K' (same d v hd)]
      cases d with
      | none =>
        have := k3 st.tm R' (fun v st1 => K' (st1.put o.dst v)) (fun x _ => by cases x <;> rfl)
        have e1 : st.tmd st.tm = st := rfl
        have e2 : s.tmd st.tm = s := by rw [← k1]; rfl
        rw [e1, e2] at this
        exact this
      | some c =>
        have := k3 (st.tm.set c v) R' (fun v st1 => K' (st1.put o.dst v)) (fun x hx => same (some c) v hd x (looks_ops hx))
        rw [put_tmd, this, ← k1]
        show K' ((s.put (some c) v).put o.dst u) = _
        rw [put_comm (fun c' hc => by injection hc with hc; subst hc; exact (hd c rfl).1)]
  · refine ⟨_, h1, fun x hx => put_op hx, fun d v R' K' hd => ?_⟩
    rw [h2 _ R' K' (same d v hd)]
    rw [put_comm (fun c hc => (hd c hc).1)]
theorem put_back {d : Option Tmp} {v : PV} : ∃ u, (st.put d v).put d u = st := by
  cases d with
  | none => exact ⟨v, rfl⟩
  | some d =>
    refine ⟨st.get d, ?_⟩
    simp only [St.put]
    have : (st.tm.set d v).set d (st.get d) = st.tm := by
      apply List.ext_getElem?
      intro i
      rw [List.set_set, List.getElem?_set]
      split
      · rename_i e
        subst e
        split
        · rename_i hlt
          unfold St.get
          rw [List.getD_eq_getElem?_getD, List.getElem?_eq_getElem hlt]
          rfl
        · rename_i hlt
          rw [List.getElem?_eq_none (by omega)]
      · rfl
    rw [this]
theorem put_put {d : Option Tmp} {v u : PV} : (st.put d v).put d u = st.put d u := by
  cases d with
  | none => rfl
  | some d => simp only [St.put, List.set_set]
/-- x looks, y writes: y may be done first. -/
theorem swap1 {sg : FuncId → Option Sh} {ih : FuncId → List AA → Option Res} {ops : List Oper} {si sj : Nat} {x y : Oper} {K : St → Option R} (hx : reader x = true) (hy : writer sg y = true) (hap : Apart ops x y)
    (hm : tpure x = true ∨ ∀ (v : PV) (s : St), (∀ R' (K' : St → Option R'), stepK P sg ih ops sj y (st.put x.dst v) K' = K' s) → ∀ u, Agr st (s.put x.dst u) x.op.operands.toList ∨ ¬ (s.put x.dst u).put x.dst v = s)
    (h : (stepK P sg ih ops si x st fun st1 => stepK P sg ih ops sj y st1 K) = some r) : (stepK P sg ih ops sj y st fun st1 => stepK P sg ih ops si x st1 K) = some r := by
  obtain ⟨v, h1, h2⟩ := stepK_rd hx h
  obtain ⟨s, k1, k2, k3⟩ := stepK_wr hy h1
  have hd : ∀ c, x.dst = some c → y.dst ≠ some c ∧ Operand.tmp c ∉ looks ops y := fun c hc => ⟨hap.dd c hc, hap.ij c hc⟩
  have det : ∀ R' (K' : St → Option R'), stepK P sg ih ops sj y (st.put x.dst v) K' = K' s := fun R' K' => by
    have := k3 none v R' K' (fun c hc => by cases hc)
    exact this
  obtain ⟨u, hu⟩ := put_back (st := st) (d := x.dst) (v := v)
  have h3 := k3 x.dst u R (fun st1 => stepK P sg ih ops si x st1 K) hd
  rw [hu] at h3
  rw [h3]
  -- the writer leaves what x has laid
  have hsv : (s.put x.dst u).put x.dst v = s := by
    have h4 := k3 x.dst v St some hd
    rw [put_put] at h4
    have h5 := det St some
    rw [h4] at h5
    injection h5 with h5
    rw [put_put]; exact h5
  have hop : ∀ z ∈ looks ops x, (s.put x.dst u).op z = st.op z := fun z hz => by
    by_cases hzx : ∀ d, x.dst = some d → z ≠ .tmp d
    · rw [put_op hzx, k2 z (fun d hd e => hap.ji d hd (e ▸ hz)), put_op hzx]
    · have : ∃ d, x.dst = some d ∧ z = .tmp d := by
        apply Classical.byContradiction
        intro hn
        exact hzx (fun d hd e => hn ⟨d, hd, e⟩)
      obtain ⟨d, hd', rfl⟩ := this
      have e1 : ((st.put x.dst v).put x.dst u).op (.tmp d) = st.op (.tmp d) := by rw [hu]
      have hlen : s.tm.length = st.tm.length := by
        have h4 := k3 x.dst v St some hd
        rcases stepK_cases h1 with ⟨g1, g2⟩ | ⟨g1, g2⟩
        · obtain ⟨u', s', q1, q2, q3⟩ := opK_tmd hy g1
          have g3 := g2 (st.put x.dst v) St some (fun _ _ => rfl)
          rw [det St some] at g3
          have g4 := q3 (st.put x.dst v).tm St (fun v st1 => some (st1.put y.dst v)) (fun z _ => by cases z <;> rfl)
          have e3 : (st.put x.dst v).tmd (st.put x.dst v).tm = st.put x.dst v := rfl
          rw [e3] at g4
          rw [g4] at g3
          injection g3 with g3
          rw [g3]
          have : ∀ (d : Option Tmp) (v : PV) (s : St), (s.put d v).tm.length = s.tm.length := fun d v s => by cases d <;> simp [St.put]
          rw [this]
          show (st.put x.dst v).tm.length = _
          rw [this]
        · have g3 := g2 (st.put x.dst v) St some (fun _ _ => rfl)
          rw [det St some] at g3
          injection g3 with g3
          rw [g3]
          have : ∀ (d : Option Tmp) (v : PV) (s : St), (s.put d v).tm.length = s.tm.length := fun d v s => by cases d <;> simp [St.put]
          rw [this, this]
      rw [hd'] at e1 ⊢
      rw [← e1]
      simp only [St.op, St.get, St.put, List.getD_eq_getElem?_getD, List.set_set]
      rw [List.getElem?_set, List.getElem?_set, hlen]
      simp
  have h6 := h2 (s.put x.dst u) R K ⟨hop, by
    rcases hm with ht | hm
    · exact .inl ht
    · rcases hm v s det u with hg | hg
      · exact .inr hg
      · exact absurd hsv hg⟩
  rw [h6, hsv]
  exact k1
/-- x writes, y looks at variables alone: y may be done first. -/
theorem swap2 {sg : FuncId → Option Sh} {ih : FuncId → List AA → Option Res} {ops : List Oper} {si sj : Nat} {x y : Oper} {K : St → Option R} (hx : writer sg x = true) (hy : tpure y = true) (hap : Apart ops x y)
    (h : (stepK P sg ih ops si x st fun st1 => stepK P sg ih ops sj y st1 K) = some r) : (stepK P sg ih ops sj y st fun st1 => stepK P sg ih ops si x st1 K) = some r := by
  obtain ⟨s, k1, k2, k3⟩ := stepK_wr hx h
  obtain ⟨v, h1, h2⟩ := stepK_rd (tpure_reader hy) k1
  rw [h2 st R (fun st1 => stepK P sg ih ops si x st1 K) ⟨fun z hz => (k2 z (fun d hd e => hap.ij d hd (e ▸ hz))).symm, .inl hy⟩]
  rw [k3 y.dst v R K (fun c hc => ⟨fun hd => hap.dd c hd hc, hap.ji c hc⟩)]
  exact h1
theorem mark_frzO (l : List Nat) (k : Nat) : frzO ((mark l st).ar.getD k none) = frzO (st.ar.getD k none) := by
  rw [List.getD_eq_getElem?_getD, List.getD_eq_getElem?_getD, mark_get]
  cases st.ar[k]? with
  | none => rfl
  | some z =>
    simp only [Option.map_some, Option.getD_some]
    split
    · rw [frzO_frzO]
    · rfl
/-- What a store into a box leaves. -/
theorem stepK_store {sg : FuncId → Option Sh} {ih : FuncId → List AA → Option Res} {ops : List Oper} {slot : Nat} {K : St → Option R} {T : TypeId} {y z : Operand} {b off : Nat} (ho : o.op = .store T y z) (hb : st.op y = .a (.c (.box b off))) (h : stepK P sg ih ops slot o st K = some r)
    {s : St} (hs : ∀ R' (K' : St → Option R'), stepK P sg ih ops slot o st K' = K' s) : (∀ k, k ≠ b → s.bx.getD k none = st.bx.getD k none) ∧ ∀ k, frzO (s.ar.getD k none) = frzO (st.ar.getD k none) := by
  have h := hs St some
  rcases stepK_cases h with ⟨h1, _⟩ | ⟨h1, _⟩
  · unfold opK at h1
    rw [ho] at h1; dsimp only at h1
    rw [hb] at h1
    split at h1
    · rename_i p pa n hy hx hn
      injection hy with hy; injection hy with hy; subst hy
      split at h1
      · rename_i q st1 hq
        obtain ⟨l, rfl, _, _⟩ := frozenA_local hq
        split at h1
        · rename_i hlen
          have h1 : (match (mark l st).box? b with | some cs => if off + n ≤ cs.length then some (((mark l st).setBx b (spliceC cs off (paCells q))).put o.dst (.tup [])) else none | none => none) = some s := h1
          split at h1
          · rename_i cs hcs
            split at h1
            · injection h1 with h1
              subst h1
              refine ⟨fun k hk => ?_, fun k => ?_⟩
              · rw [put_bx]
                simp only [St.setBx, List.getD_eq_getElem?_getD]
                rw [List.getElem?_set_ne (Ne.symm hk), mark_bx]
              · rw [put_ar]
                exact mark_frzO l k
            · cases h1
          · cases h1
        · cases h1
      · cases h1
    · cases h1
  · injection h1 with h1
    subst h1
    exact ⟨fun k _ => by rw [put_bx], fun k => by rw [put_ar]⟩
/-- Nothing in the region writes the variable: it is as it was. -/
def okD (ops : List Oper) (st0 : St) (b : Nat) (d : Tmp) : Prop := namesB b (st0.op (.tmp d)) = false ∧ ∀ o ∈ ops, o.dst = some d → ∃ T c1 f, o.op = .fieldAddr T (.tmp c1) f ∧ (∀ o ∈ ops, o.dst ≠ some c1) ∧ namesB b (st0.op (.tmp c1)) = false
structure Stable (ops : List Oper) (st0 st : St) : Prop where
  keep : ∀ c, (∀ o ∈ ops, o.dst ≠ some c) → st.op (.tmp c) = st0.op (.tmp c)
  nm : ∀ b d, okD ops st0 b d → namesB b (st.op (.tmp d)) = false
theorem put_get {d : Tmp} {v : PV} {b : Nat} (h : namesB b v = false) : namesB b ((st.put (some d) v).op (.tmp d)) = false := by
  simp only [St.op, St.get, St.put, List.getD_eq_getElem?_getD, List.getElem?_set_self']
  cases st.tm[d]? with
  | none => rfl
  | some _ => exact h
theorem stable_step {sg : FuncId → Option Sh} {ih : FuncId → List AA → Option Res} {ops : List Oper} {slot : Nat} {st0 s : St} (hst : Stable ops st0 st) (hm : o ∈ ops) (hu : stepK P sg ih ops slot o st some = some s)
    (k3 : ∀ x, (∀ d, o.dst = some d → x ≠ .tmp d) → s.op x = st.op x) : Stable ops st0 s := by
  refine ⟨fun c hc => ?_, fun b d hok => ?_⟩
  · rw [k3 (.tmp c) (fun d hd e => by injection e with e; subst e; exact hc o hm hd)]
    exact hst.keep c hc
  · by_cases hd : o.dst = some d
    · obtain ⟨T, c1, f, ho, hc1, hn⟩ := hok.2 o hm hd
      have hn1 : namesB b (st.op (.tmp c1)) = false := by rw [hst.keep c1 hc1]; exact hn
      rcases stepK_cases hu with ⟨h1, _⟩ | ⟨h1, _⟩
      · unfold opK at h1
        rw [ho] at h1; dsimp only at h1
        repeat' split at h1
        all_goals first
          | contradiction
          | (simp only [Option.some.injEq] at h1
             subst h1
             rw [hd]
             refine put_get ?_
             first
               | rfl
               | (simp only [*] at hn1; exact hn1))
      · injection h1 with h1
        subst h1
        rw [hd]
        exact put_get rfl
    · rw [k3 (.tmp d) (fun d' hd' e => by injection e with e; subst e; exact hd hd')]
      exact hst.nm b d hok
theorem namesB_box {b off : Nat} {v : PV} (h : namesB b v = false) : v ≠ .a (.c (.box b off)) := by
  rintro rfl
  simp [namesB] at h
/-- May the two be done in either order? -/
def Pair (sg : FuncId → Option Sh) (st0 : St) (ops : List Oper) (x y : Oper) : Prop :=
  Apart ops x y ∧ ((quiet sg x = true ∧ quiet sg y = true) ∨ (tpure x = true ∧ writer sg y = true) ∨ (writer sg x = true ∧ tpure y = true) ∨
    ((∀ o ∈ ops, quiet sg o = true ∨ writer sg o = true) ∧ reader x = true ∧ ∃ T c z b off, y.op = .store T (.tmp c) z ∧ (∀ o ∈ ops, o.dst ≠ some c) ∧ st0.op (.tmp c) = .a (.c (.box b off)) ∧
      ∀ d, Operand.tmp d ∈ looks ops x → x.dst ≠ some d ∧ okD ops st0 b d) ∨
    ((∀ o ∈ ops, quiet sg o = true ∨ writer sg o = true) ∧ callerB sg x = true ∧ ∃ T c z b off, y.op = .store T (.tmp c) z ∧ y.guard = none ∧ (∀ o ∈ ops, o.dst ≠ some c) ∧ st0.op (.tmp c) = .a (.c (.box b off)) ∧ b < st0.bx.length))
/-- A store into a box, told as a quiet step that lays its box anew. -/
theorem stepK_storeF {sg : FuncId → Option Sh} {ih : FuncId → List AA → Option Res} {ops : List Oper} {slot : Nat} {K : St → Option R} {T : TypeId} {y z : Operand} {b off : Nat} (ho : o.op = .store T y z) (hg : o.guard = none) (hb : st.op y = .a (.c (.box b off))) (h : stepK P sg ih ops slot o st K = some r) :
    ∃ l cs', K ((fin b l (some cs') [] st).put o.dst (.tup [])) = some r ∧ (∀ i ∈ l, Nm st [z] i ∧ ∃ A, st.ar.getD i none = some A) ∧
      ∀ (st' : St) (R' : Type) (K' : St → Option R'), AgrA st st' [y, z] → st'.bx[b]? = st.bx[b]? → stepK P sg ih ops slot o st' K' = K' ((fin b l (some cs') [] st').put o.dst (.tup [])) := by
  unfold stepK wantedK at h
  rw [hg] at h
  have h1 : (opK P sg ih slot o st fun v st1 => K (st1.put o.dst v)) = some r := h
  unfold opK at h1
  rw [ho] at h1; dsimp only at h1
  rw [hb] at h1
  split at h1
  · rename_i p pa n hy hx hn
    injection hy with hy; injection hy with hy; subst hy
    split at h1
    · rename_i q st1 hq
      obtain ⟨l, rfl, g, loc⟩ := frozenA_local hq
      split at h1
      · rename_i hlen
        have h1 : (match (mark l st).box? b with | some cs => if off + n ≤ cs.length then K (((mark l st).setBx b (spliceC cs off (paCells q))).put o.dst (.tup [])) else none | none => none) = some r := h1
        split at h1
        · rename_i cs hcs
          split at h1
          · rename_i hle
            refine ⟨l, spliceC cs off (paCells q), h1, fun i hi => ⟨⟨z, by simp, pa, hx, (g i hi).1⟩, (g i hi).2⟩, fun st' R' K' ha hbx => ?_⟩
            unfold stepK wantedK
            rw [hg]
            show (opK P sg ih slot o st' fun v st1 => K' (st1.put o.dst v)) = _
            unfold opK
            rw [ho]; dsimp only
            rw [ha.op y (by simp), hb, ha.op z (by simp), hx, hn]
            dsimp only
            rw [loc st' (fun p hp => ha.mem z (by simp) pa hx p hp)]
            dsimp only
            rw [if_pos hlen]
            have hcs' : (mark l st').box? b = some cs := by
              unfold St.box? at hcs ⊢
              rw [mark_bx] at hcs ⊢
              rw [List.getD_eq_getElem?_getD] at hcs ⊢
              rw [hbx]; exact hcs
            show (match (mark l st').box? b with | some cs => if off + n ≤ cs.length then K' (((mark l st').setBx b (spliceC cs off (paCells q))).put o.dst (.tup [])) else none | none => none) = _
            rw [hcs']
            dsimp only
            rw [if_pos hle]
            rfl
          · cases h1
        · cases h1
      · cases h1
    · cases h1
  · cases h1
theorem frozens_box : ∀ {ps qs : List PC} {st s : St}, st.frozens ps = some (qs, s) → ∀ p ∈ ps, ∀ b off, p ≠ .box b off
  | [], qs, st, s, h, p, hp, b, off => by cases hp
  | p' :: ps, qs, st, s, h, p, hp, b, off => by
    unfold St.frozens at h
    split at h
    · rename_i q st1 h1
      split at h
      · rename_i qs' st2 h2
        rcases List.mem_cons.1 hp with rfl | hp
        · rintro rfl
          simp [St.frozen] at h1
        · exact frozens_box h2 p hp b off
      · cases h
    · cases h
theorem frozenA_box {pa q : PA} {s : St} (h : st.frozenA pa = some (q, s)) : ∀ p ∈ paCells pa, ∀ b off, p ≠ .box b off := by
  intro p hp b off
  unfold St.frozenA at h
  split at h
  · rename_i p'
    split at h
    · rename_i q st1 h1
      have : p = p' := by simpa [paCells] using hp
      subst this
      rintro rfl
      simp [St.frozen] at h1
    · cases h
  · rename_i ps
    split at h
    · rename_i qs st1 h1
      exact frozens_box h1 p hp b off
    · cases h
theorem argsOf_nobox : ∀ {xs : List Operand} {n : Nat} {as : List AA} {st s : St}, argsOf [] st n xs = some (as, s) → ∀ x ∈ xs, ∀ pa, st.op x = .a pa → ∀ p ∈ paCells pa, ∀ b off, p ≠ .box b off
  | [], n, as, st, s, h, x, hx, pa, hpa, p, hp, b, off => by cases hx
  | y :: xs, n, as, st, s, h, x, hx, pa, hpa, p, hp, b, off => by
    unfold argsOf at h
    rw [show ([] : List Nat).contains n = false from rfl] at h
    split at h
    · rename_i a st1 h1
      split at h
      · rename_i as' st2 h2
        unfold argOf at h1
        split at h1
        · rename_i pa' hpa'
          simp only [Bool.false_eq_true, if_false] at h1
          split at h1
          · rename_i q s1 hh
            injection h1 with h1
            injection h1 with _ h1
            subst h1
            rcases List.mem_cons.1 hx with rfl | hx
            · rw [hpa] at hpa'
              injection hpa' with hpa'
              subst hpa'
              exact frozenA_box hh p hp b off
            · obtain ⟨l, rfl, _, _⟩ := frozenA_local hh
              exact argsOf_nobox h2 x hx pa (by rw [mark_op]; exact hpa) p hp b off
          · cases h1
        · cases h1
      · cases h
    · cases h
theorem store_writer {sg : FuncId → Option Sh} {T : TypeId} {y z : Operand} (h : o.op = .store T y z) : writer sg o = true := by unfold writer; rw [h]
theorem partsOf_nobox : ∀ {xs : List (Nat × Operand)} {ps : List (Nat × List PC)} {st s : St}, partsOf st xs = some (ps, s) → ∀ y ∈ xs, ∀ pa, st.op y.2 = .a pa → ∀ p ∈ paCells pa, ∀ b off, p ≠ .box b off
  | [], ps, st, s, h, y, hy, pa, hpa, p, hp, b, off => by cases hy
  | (n, x) :: xs, ps, st, s, h, y, hy, pa, hpa, p, hp, b, off => by
    unfold partsOf at h
    split at h
    · rename_i pa' hpa'
      split at h
      · rename_i q st1 hh
        split at h
        · rename_i qs st2 h2
          rcases List.mem_cons.1 hy with rfl | hy
          · rw [hpa] at hpa'
            injection hpa' with hpa'
            subst hpa'
            exact frozenA_box hh p hp b off
          · obtain ⟨l, rfl, _, _⟩ := frozenA_local hh
            exact partsOf_nobox h2 y hy pa (by rw [mark_op]; exact hpa) p hp b off
        · cases h
      · cases h
    · cases h
theorem callerB_maker {sg : FuncId → Option Sh} {x : Oper} (h : callerB sg x = true) : maker sg x = true := by
  unfold callerB at h
  unfold maker
  split at h
  · rename_i c hc
    split at h
    · rename_i g hcal
      simp only [Bool.and_eq_true] at h
      simp only [hc, hcal]
      exact h.2
    · cases h
  · rename_i hc
    simp only [hc]
  · cases h
theorem caller_nobox {sg : FuncId → Option Sh} {ih : FuncId → List AA → Option Res} {ops : List Oper} {slot : Nat} {K : St → Option R} {x : Oper} (hx : callerB sg x = true) (h : stepK P sg ih ops slot x st K = some r) : ∀ z ∈ looks ops x, ∀ pa, st.op z = .a pa → ∀ p ∈ paCells pa, ∀ b off, p ≠ .box b off := by
  intro z hz pa hpa p hp b off
  unfold callerB at hx
  split at hx
  · rename_i c hc
    split at hx
    · rename_i g hcal
      rw [Bool.and_eq_true] at hx
      obtain ⟨hg, hsh⟩ := hx
      have hg : x.guard = none := by simpa using hg
      unfold stepK wantedK at h
      rw [hg] at h
      have h : (opK P sg ih slot x st fun v st1 => K (st1.put x.dst v)) = some r := h
      unfold opK at h
      simp only [hc, hcal] at h
      unfold callK at h
      split at h
      · cases h
      · rename_i sh hsg
        rw [hsg] at hsh
        simp only [Bool.and_eq_true] at hsh
        have ho : sh.obj = none := by simpa using hsh.1.1
        have hl : sh.lent = [] := by simpa using hsh.1.2
        rw [ho] at h
        dsimp only at h
        split at h
        · cases h
        · rename_i as st0 has
          rw [hl] at has
          have hm : z = .func g ∨ z ∈ c.args.toList := by
            unfold looks at hz
            rw [hg, hc] at hz
            simpa [Op.operands, Call.operands, hcal] using hz
          rcases hm with rfl | hm
          · have hpa : PV.one (.fn g) = .a pa := hpa
            injection hpa with hpa
            subst hpa
            have : p = .fn g := by simpa [paCells] using hp
            subst this
            simp
          · exact argsOf_nobox has z hm pa hpa p hp b off
    · cases hx
  · rename_i T parts hc
    have hg : x.guard = none := by simpa using hx
    unfold stepK wantedK at h
    rw [hg] at h
    have h : (opK P sg ih slot x st fun v st1 => K (st1.put x.dst v)) = some r := h
    have hm : z ∈ parts.toList.map (·.2) := by
      unfold looks at hz
      rw [hg, hc] at hz
      simpa [Op.operands] using hz
    obtain ⟨y, hy, rfl⟩ := List.mem_map.1 hm
    have key : ∃ ps st1, partsOf st parts.toList = some (ps, st1) := by
      unfold opK at h
      simp only [hc] at h
      cases hps : partsOf st parts.toList with
      | some q => exact ⟨q.1, q.2, rfl⟩
      | none =>
        exfalso
        rw [hps] at h
        repeat' split at h
        all_goals first | contradiction | simp_all
    obtain ⟨ps, st1, hps⟩ := key
    exact partsOf_nobox hps y hy pa hpa p hp b off
  · cases hx
theorem swap5 {sg : FuncId → Option Sh} {ih : FuncId → List AA → Option Res} {ops : List Oper} {si sj : Nat} {x y : Oper} {K : St → Option R} {T : TypeId} {c : Tmp} {z : Operand} {b off : Nat} (hwf : WF st) (hs : si ≠ b) (hap : Apart ops x y) (hx : callerB sg x = true) (hy : y.op = .store T (.tmp c) z) (hg : y.guard = none) (hxc : x.dst ≠ some c)
    (hb : st.op (.tmp c) = .a (.c (.box b off))) (h : (stepK P sg ih ops si x st fun st1 => stepK P sg ih ops sj y st1 K) = some r) : (stepK P sg ih ops sj y st fun st1 => stepK P sg ih ops si x st1 K) = some r := by
  have hq : quiet sg x = true := by unfold quiet; rw [callerB_maker hx]; simp
  have hnb := caller_nobox hx h
  obtain ⟨vi, li, bi, Ai, hAi, h1, gi, fi, fbi, hli⟩ := stepK_quiet hq h
  have hlk : ∀ q ∈ [Operand.tmp c, z], q ∈ looks ops y := fun q hq => by
    refine looks_ops ?_
    rw [hy]
    simpa [Op.operands] using hq
  have hxj : ∀ q ∈ [Operand.tmp c, z], ∀ t, x.dst = some t → q ≠ .tmp t := fun q hq t ht e => hap.ij t ht (e ▸ hlk q hq)
  have hxi : ∀ q ∈ looks ops x, ∀ t, y.dst = some t → q ≠ .tmp t := fun q hq t ht e => hap.ji t ht (e ▸ hq)
  obtain ⟨a1, _⟩ := eff_agr (l := li) (b := bi) (As := Ai) (d := x.dst) (v := vi) hwf fi fbi hxj
  have hbA : ((fin si li bi Ai st).put x.dst vi).op (.tmp c) = .a (.c (.box b off)) := by rw [← a1.op _ (by simp)]; exact hb
  obtain ⟨lj, cs', h2, gj, hlj⟩ := stepK_storeF hy hg hbA h1
  have hbx : st.bx[b]? = ((fin si li bi Ai st).put x.dst vi).bx[b]? := by
    rw [put_bx, fin_bx]
    cases bi with
    | none => rfl
    | some cs => rw [List.getElem?_set_ne hs]
  rw [hlj st R (fun st1 => stepK P sg ih ops si x st1 K) a1 hbx]
  have a2 : AgrA st ((fin b lj (some cs') [] st).put y.dst (.tup [])) (looks ops x) := by
    have hop : ∀ q ∈ looks ops x, ((fin b lj (some cs') [] st).put y.dst (.tup [])).op q = st.op q := fun q hq => (put_op (hxi q hq)).trans (fin_op q)
    refine ⟨hop, fun q hq pa hpa p hp => ?_⟩
    have har : ∀ k, frzO (((fin b lj (some cs') [] st).put y.dst (.tup [])).ar.getD k none) = frzO (st.ar.getD k none) := fun k => by
      rw [put_ar, List.getD_eq_getElem?_getD, List.getD_eq_getElem?_getD, fin_ar]
      cases st.ar[k]? with
      | none => rfl
      | some w =>
        simp only [Option.map_some, Option.getD_some, F, List.length_nil, Nat.add_zero]
        rw [if_neg (by omega)]
        split
        · rw [frzO_frzO]
        · rfl
    cases p with
    | own k ver => exact har k
    | view k ver o1 len => exact har k
    | arr k ver j o1 => exact har k
    | box k o1 => exact absurd rfl (hnb q hq pa hpa _ hp k o1)
    | _ => trivial
  have hslot2 : Slot st ((fin b lj (some cs') [] st).put y.dst (.tup [])) si Ai.length := by
    refine ⟨?_, fun k hk => ?_⟩
    · rw [put_bx, fin_bx]
      exact List.getElem?_set_ne (Ne.symm hs)
    · rw [put_ar, fin_ar, fi k hk]
      simp only [Option.map_some, F, List.length_nil, Nat.add_zero]
      rw [if_neg (by omega)]
      split <;> rfl
  rw [hli _ R K a2 hslot2]
  rw [← eff_comm hs hAi (by simp) ?_ ?_ hap.dd]
  · exact h2
  · intro k hk hm
    obtain ⟨⟨q, hq, pa, hpa, p, hp, hn⟩, _⟩ := gj _ hm
    rw [← a1.op q (by simp at hq ⊢; exact .inr hq)] at hpa
    obtain ⟨A, hA⟩ := (hwf q pa hpa p hp).1 _ hn
    rw [fi k hk] at hA
    cases hA
  · intro k hk; simp at hk
theorem swap3 {sg : FuncId → Option Sh} {ih : FuncId → List AA → Option Res} {ops : List Oper} {st0 : St} {si sj : Nat} {x y : Oper} {K : St → Option R} (hwf : WF st) (hs : si ≠ sj) (hsi : st0.bx.length ≤ si) (hst : (∀ o ∈ ops, quiet sg o = true ∨ writer sg o = true) → Stable ops st0 st) (hxm : x ∈ ops) (hp : Pair sg st0 ops x y)
    (h : (stepK P sg ih ops si x st fun st1 => stepK P sg ih ops sj y st1 K) = some r) : (stepK P sg ih ops sj y st fun st1 => stepK P sg ih ops si x st1 K) = some r := by
  obtain ⟨hap, ⟨h1, h2⟩ | ⟨h1, h2⟩ | ⟨h1, h2⟩ | ⟨hall, h1, T, c, z, b, off, h2, h3, h4, h5⟩ | ⟨hall, h1, T, c, z, b, off, h2, hg, h3, h4, h5⟩⟩ := hp
  rotate_left 4
  · exact swap5 (b := b) (off := off) hwf (by omega) hap h1 h2 hg (h3 x hxm) (by rw [(hst hall).keep c h3]; exact h4) h
  · exact swap hwf h1 h2 hs hap h
  · exact swap1 (tpure_reader h1) h2 hap (.inl h1) h
  · exact swap2 h1 h2 hap h
  · have hstab := hst hall
    have hxc : x.dst ≠ some c := h3 x hxm
    have hb : st.op (.tmp c) = .a (.c (.box b off)) := by rw [hstab.keep c h3]; exact h4
    refine swap1 h1 (store_writer h2) hap (.inr fun v s hs u => ?_) h
    apply Classical.or_iff_not_imp_right.2
    intro hsv
    have hsv : (s.put x.dst u).put x.dst v = s := Classical.byContradiction hsv
    obtain ⟨v', h7, _⟩ := stepK_rd h1 h
    have hbv : (st.put x.dst v).op (.tmp c) = .a (.c (.box b off)) := by
      rw [put_op (fun d hd e => by injection e with e; subst e; exact hxc hd)]
      exact hb
    obtain ⟨m1, m2⟩ := stepK_store h2 hbv (K := some) (r := s) (hs St some) hs
    have hop : ∀ q ∈ x.op.operands.toList, (s.put x.dst u).op q = st.op q := fun q hq => by
      cases q with
      | tmp d =>
        have hd := (h5 d (looks_ops hq)).1
        have hne : ∀ e, x.dst = some e → Operand.tmp d ≠ .tmp e := fun e he hh => by injection hh with hh; subst hh; exact hd he
        have hlw : ∃ s', (∀ R' (K' : St → Option R'), stepK P sg ih ops sj y (st.put x.dst v) K' = K' s') := ⟨s, hs⟩
        obtain ⟨s2, k1, k2, _⟩ := stepK_wr (store_writer h2) (hs St some)
        injection k1 with k1; subst k1
        have hyd : ∀ e, y.dst = some e → Operand.tmp d ≠ .tmp e := fun e he hh => by
          injection hh with hh; subst hh
          exact hap.ji d he (looks_ops hq)
        rw [put_op hne, k2 _ hyd, put_op hne]
      | _ => cases x.dst <;> rfl
    refine ⟨hop, fun q hq p hpq => ?_⟩
    have har : ∀ k, frzO ((s.put x.dst u).ar.getD k none) = frzO (st.ar.getD k none) := fun k => by rw [put_ar, m2 k, put_ar]
    cases p with
    | own k ver => exact har k
    | view k ver o1 len => exact har k
    | arr k ver j o1 => exact har k
    | box k o1 =>
      have hkb : k ≠ b := by
        rintro rfl
        cases q with
        | tmp d =>
          exact namesB_box (hstab.nm k d (h5 d (looks_ops hq)).2) hpq
        | const v =>
          have hpq : constV v = _ := hpq
          unfold constV at hpq
          split at hpq
          · cases hpq
          · injection hpq with hpq; injection hpq with hpq
            unfold constC at hpq
            split at hpq <;> cases hpq
        | func f => cases hpq
        | global g => cases hpq
      show (s.put x.dst u).bx.getD k none = st.bx.getD k none
      rw [put_bx, m1 k hkb, put_bx]
    | _ => trivial
theorem fin_op' {slot : Nat} {l : List Nat} {b : Option (List PC)} {As : List AR} (x : Operand) : (fin slot l b As st).op x = st.op x := fin_op x
/-- A step that is done in one way alone. -/
theorem stepK_det {sg : FuncId → Option Sh} {ih : FuncId → List AA → Option Res} {ops : List Oper} {slot : Nat} {K : St → Option R} (ho : quiet sg o = true ∨ writer sg o = true) (h : stepK P sg ih ops slot o st K = some r) :
    ∃ s, K s = some r ∧ (∀ R' (K' : St → Option R'), stepK P sg ih ops slot o st K' = K' s) ∧ ∀ x, (∀ d, o.dst = some d → x ≠ .tmp d) → s.op x = st.op x := by
  rcases ho with ho | ho
  · obtain ⟨v, l, b, As, _, h1, _, _, _, h2⟩ := stepK_quiet ho h
    refine ⟨_, h1, fun R' K' => h2 st R' K' ⟨fun _ _ => rfl, fun x _ pa _ p _ => by cases p <;> first | rfl | trivial⟩ ⟨rfl, fun _ _ => rfl⟩, fun x hx => ?_⟩
    rw [put_op hx, fin_op]
  · obtain ⟨s, k1, k2, k3⟩ := stepK_wr ho h
    exact ⟨s, k1, fun R' K' => k3 none (.tup []) R' K' (fun c hc => by cases hc), k2⟩
/-- A step, in the text's order or out of it. -/
theorem stepK_one' {sg : FuncId → Option Sh} {ih : FuncId → List AA → Option Res} (hih : ObsOk P sg ∧ ∀ g as res, ih g as = some res → CallOk P g as res) {ops : List Oper} {slot : Nat} {K : St → Option R} (hI : Inv X E ok st a w) (ho : quiet sg o = true ∨ writer sg o = true) (h : stepK P sg ih ops slot o st K = some r) :
    ∃ st1, Is X st1 ∧ K st1 = some r ∧ (∀ (R' : Type) (K' : St → Option R'), stepK P sg ih ops slot o st K' = K' st1) ∧ ∀ x, (∀ d, o.dst = some d → x ≠ .tmp d) → st1.op x = st.op x := by
  obtain ⟨s, h1, nat, hx⟩ := stepK_det ho h
  refine ⟨s, ?_, h1, nat, hx⟩
  have hs := nat St some
  rcases stepK_cases hs with ⟨g1, _⟩ | ⟨g1, _⟩
  · obtain ⟨v, st1, k1, k2⟩ := opK_sound hih hI g1
    injection k1 with k1
    rw [← k1]
    exact goes_is k2
  · injection g1 with g1
    rw [← g1]
    exact ⟨E, ok, _, w, hI.put (v := .tup []) (v' := undef) ⟨[], rfl, rfl, by simp⟩ o.dst⟩
theorem Pair.left {sg : FuncId → Option Sh} {st0 : St} {ops : List Oper} {x y : Oper} (h : Pair sg st0 ops x y) : quiet sg x = true ∨ writer sg x = true := by
  obtain ⟨_, ⟨h1, _⟩ | ⟨h1, _⟩ | ⟨h1, _⟩ | ⟨_, h1, _⟩ | ⟨_, h1, _⟩⟩ := h
  · exact .inl h1
  · exact .inl (by unfold quiet; rw [tpure_reader h1]; rfl)
  · exact .inr h1
  · exact .inl (by unfold quiet; rw [h1]; rfl)
  · exact .inl (by unfold quiet; rw [callerB_maker h1]; simp)
/-- An operation is done ahead of some that stand before it. -/
theorem pull' {sg : FuncId → Option Sh} {ih : FuncId → List AA → Option Res} (hih : ObsOk P sg ∧ ∀ g as res, ih g as = some res → CallOk P g as res) {ops : List Oper} {st0 : St} {base : Nat} (hb0 : st0.bx.length ≤ base) {K : St → Option R} {p : Nat} : ∀ {pre post : List (Nat × Oper)} {st : St}, Is X st →
    ((∀ o ∈ ops, quiet sg o = true ∨ writer sg o = true) → Stable ops st0 st) → (∀ x ∈ pre, x.1 ≠ p ∧ x.2 ∈ ops ∧ Pair sg st0 ops x.2 o) → runD P sg ih ops base (pre ++ (p, o) :: post) st K = some r → runD P sg ih ops base ((p, o) :: (pre ++ post)) st K = some r
  | [], post, st, hI, hst, hp, h => h
  | (q, o') :: pre, post, st, hI, hst, hp, h => by
    obtain ⟨E, ok, a, w, hI⟩ := hI
    obtain ⟨h1, hm, h2⟩ := hp _ (.head _)
    rw [List.cons_append, runD] at h
    obtain ⟨st1, i1, k1, k2, k3⟩ := stepK_one' hih hI h2.left h
    have hst1 : (∀ o ∈ ops, quiet sg o = true ∨ writer sg o = true) → Stable ops st0 st1 := fun ha => stable_step (hst ha) hm (k2 St some) k3
    have k4 := pull' hih hb0 i1 hst1 (fun x hx => hp x (.tail _ hx)) k1
    rw [runD] at k4
    have k5 : (stepK P sg ih ops (base + q) o' st fun st1 => stepK P sg ih ops (base + p) o st1 fun st2 => runD P sg ih ops base (pre ++ post) st2 K) = some r := by
      rw [k2]; exact k4
    exact swap3 hI.wf (by simp only at h1; omega) (by omega) hst hm h2 k5
end Go.Eng
end
section
set_option linter.unusedVariables false
set_option linter.unusedSimpArgs false
namespace Go.Eng
variable {R : Type} {P : Program} {X : Ctx} {E : Env} {ok : Nat → Prop} {a : Act} {w : World} {st st' : St} {r : R} {o : Oper}

theorem stepK_sound {sg : FuncId → Option Sh} {ih : FuncId → List AA → Option Res} (hih : ObsOk P sg ∧ ∀ g as res, ih g as = some res → CallOk P g as res) {ops : Array Oper} {Q : Exit → Act → World → Prop} {next : Act → World → Prop} {slot : Nat} {K : St → Option R}
    (hI : Inv X E ok st a w) (h : stepK P sg ih ops.toList slot o st K = some r) (hQ : ∀ st1 a w, (∃ E ok, Inv X E ok st1 a w) → K st1 = some r → next a w) :
    if Region.wanted o (yielded ops a.tmps) then o.wp P a w next Q ∨ (o.asks P a w ∧ LetsOut Q) else next (a.put o.dst undef) w := by
  have ifYes : Region.wanted o (yielded ops a.tmps) = true → o.wp P a w next Q → if Region.wanted o (yielded ops a.tmps) then o.wp P a w next Q ∨ (o.asks P a w ∧ LetsOut Q) else next (a.put o.dst undef) w := fun h1 h2 => by rw [if_pos h1]; exact .inl h2
  have ifNo : Region.wanted o (yielded ops a.tmps) = false → next (a.put o.dst undef) w → if Region.wanted o (yielded ops a.tmps) then o.wp P a w next Q ∨ (o.asks P a w ∧ LetsOut Q) else next (a.put o.dst undef) w := fun h1 h2 => by rw [if_neg (by rw [h1]; simp)]; exact h2
  have yes : ∀ {st : St}, Inv X E ok st a w → (opK P sg ih slot o st fun v st1 => K (st1.put o.dst v)) = some r → o.wp P a w next Q := by
    intro st hI h
    obtain ⟨v, st1, h1, h2⟩ := opK_sound hih hI h
    exact h2 _ _ (fun v' w' ⟨E', ok', i1, r1⟩ => hQ _ _ _ ⟨E', ok', i1.put r1 o.dst⟩ h1)
  have no : ∀ {st : St}, Inv X E ok st a w → K (st.put o.dst (.tup [])) = some r → next (a.put o.dst undef) w := by
    intro st hI h
    exact hQ _ _ _ ⟨E, ok, hI.put (v := .tup []) (v' := undef) ⟨[], rfl, rfl, by simp⟩ o.dst⟩ h
  unfold stepK wantedK at h
  split at h
  · rename_i hg
    exact ifYes (by simp [Region.wanted, hg]) (yes hI h)
  · rename_i j want hg
    split at h
    · rename_i oj hj
      have hj' : ops[j]? = some oj := by rw [← Array.getElem?_toList]; exact hj
      split at h
      · rename_i d hd
        have hy : yielded ops a.tmps j = match a.tmps[d]? with | some (.bool b) => some b | _ => none := by
          unfold yielded
          rw [hj', Option.bind_some, hd, Option.bind_some]
          rfl
        split at h
        · rename_i b hb
          have hv := hI.get d
          rw [hb] at hv
          have hv : a.tmps.getD d undef = .bool b := hv
          have hv2 : a.tmps[d]? = some (.bool b) := by
            rw [Array.getD_eq_getD_getElem?] at hv
            cases hq : a.tmps[d]? with
            | none => rw [hq] at hv; cases hv
            | some u => rw [hq] at hv; simp only [Option.getD_some] at hv; rw [hv]
          rw [hv2] at hy
          dsimp only at hy
          have hput : ∀ c : Bool, b = c → Inv X E ok (st.put (some d) (.one (.bool c))) a w := fun c hc => by
            have := hI.know (c := .tmp d) (b := c) (by rw [← hc]; exact hv)
            exact this
          split at h
          · rename_i hbw
            exact ifYes (by simp [Region.wanted, hg, hy, hbw]) (yes (hput want hbw) h)
          · rename_i hbw
            exact ifNo (by simp [Region.wanted, hg, hy, hbw]) (no (hput (!want) (by cases b <;> cases want <;> simp_all)) h)
        · rename_i xs hb
          have hv := hI.get d
          rw [hb] at hv
          obtain ⟨vs, hv, _⟩ := hv
          have hv2 : (match a.tmps[d]? with | some (.bool b) => some b | _ => none) = none := by
            rw [Array.getD_eq_getD_getElem?] at hv
            cases hq : a.tmps[d]? with
            | none => rfl
            | some u => rw [hq] at hv; simp only [Option.getD_some] at hv; rw [hv]
          rw [hv2] at hy
          exact ifNo (by simp [Region.wanted, hg, hy]) (no hI h)
        · cases h
      · rename_i hd
        have hy : yielded ops a.tmps j = none := by
          unfold yielded
          rw [hj', Option.bind_some, hd]
          rfl
        exact ifNo (by simp [Region.wanted, hg, hy]) (no hI h)
    · rename_i hj
      have hj' : ops[j]? = none := by rw [← Array.getElem?_toList]; exact hj
      have hy : yielded ops a.tmps j = none := by
        unfold yielded
        rw [hj']
        rfl
      exact ifNo (by simp [Region.wanted, hg, hy]) (no hI h)
end Go.Eng
end
section
set_option linter.unusedVariables false
set_option linter.unusedSimpArgs false
namespace Go.Eng
variable {R : Type} {P : Program} {X : Ctx} {E : Env} {ok : Nat → Prop} {a : Act} {w : World} {st st' : St} {r : R} {o : Oper}

theorem opsL_eq : ∀ o : Op, opsL o = o.operands.toList := by
  intro o
  cases o <;> simp [opsL, Op.operands]
  case call c => cases h : c.callee <;> simp [Call.operands, h]
theorem looksL_eq (ops : List Oper) (o : Oper) : looksL ops o = looks ops o := by
  unfold looksL looks
  rw [opsL_eq]
theorem apart_of {ops : List Oper} {i j : Oper} (h : apartB ops i j = true) : Apart ops i j := by
  unfold apartB at h
  rw [looksL_eq, looksL_eq, Bool.and_eq_true] at h
  have key : ∀ {d : Tmp} {l : List Operand}, l.any (isTmp d) = false → Operand.tmp d ∉ l := fun {d l} h hm => by
    have := List.any_eq_false.1 h _ hm
    simp [isTmp] at this
  refine ⟨fun d hd => ?_, fun d hd => ?_, fun d hd => ?_⟩
  · rw [hd] at h
    simp only [Bool.and_eq_true, Bool.not_eq_true'] at h
    exact key h.1.1
  · rw [hd] at h
    have := h.2
    simp only [Bool.not_eq_true'] at this
    exact key this
  · rw [hd] at h
    simp only [Bool.and_eq_true] at h
    simpa using h.1.2
/-- May the region be done in the text's order alone? -/
structure Free (sg : FuncId → Option Sh) (st0 : St) (ops : Array Oper) : Prop where
  back : ∀ q o, ops[q]? = some o → ∀ e ∈ o.after, Region.binds .any e = true → e.on < q
  pair : ∀ (p q : Nat) (x y : Oper), p < q → ops[p]? = some x → ops[q]? = some y → edgeB y p = true ∨ Pair sg st0 ops.toList x y
theorem wpAny_runD {sg : FuncId → Option Sh} {ih : FuncId → List AA → Option Res} (hih : ObsOk P sg ∧ ∀ g as res, ih g as = some res → CallOk P g as res) {ops : Array Oper} {Q : Exit → Act → World → Prop} {base : Nat} {K : St → Option R} {st0 : St} (hb0 : st0.bx.length ≤ base) (hfree : Free sg st0 ops)
    (hQ : ∀ st1 a w, (∃ E ok, Inv X E ok st1 a w) → K st1 = some r → Q .normal a w) : ∀ (fuel : Nat) (listed : Array Bool) (rem : List (Nat × Oper)) (st : St) (E : Env) (ok : Nat → Prop) (a : Act) (w : World), listed.size = ops.size →
    (∀ p o, (p, o) ∈ rem ↔ ops[p]? = some o ∧ listed.getD p true = false) → rem.Pairwise (fun x y => x.1 < y.1) → rem.length ≤ fuel → ((∀ o ∈ ops.toList, quiet sg o = true ∨ writer sg o = true) → Stable ops.toList st0 st) → Inv X E ok st a w → runD P sg ih ops.toList base rem st K = some r → wpAny P .any ops Q fuel listed a w := by
  intro fuel
  induction fuel with
  | zero =>
    intro listed rem st E ok a w hsz hrem hsort hlen hst hI h
    have hr : rem = [] := List.eq_nil_of_length_eq_zero (by omega)
    subst hr
    refine ⟨?_, hQ st a w ⟨E, ok, hI⟩ h⟩
    apply List.filter_eq_nil_iff.2
    intro i hi hc
    simp only [Bool.and_eq_true, Bool.not_eq_true'] at hc
    have hlt : i < ops.size := by simpa using hi
    have := (hrem i ops[i]).2 ⟨Array.getElem?_eq_getElem hlt, hc.1⟩
    cases this
  | succ fuel ihf =>
    intro listed rem st E ok a w hsz hrem hsort hlen hst hI h
    have hready : ∀ i, i ∈ Region.ready .any ops listed → ∃ o, ops[i]? = some o ∧ listed.getD i true = false ∧ ∀ e ∈ o.after, Region.binds .any e = true → listed.getD e.on false = true := by
      intro i hi
      unfold Region.ready at hi
      rw [List.mem_filter] at hi
      obtain ⟨hi, hc⟩ := hi
      simp only [Bool.and_eq_true, Bool.not_eq_true'] at hc
      have hlt : i < ops.size := by simpa using hi
      refine ⟨ops[i], Array.getElem?_eq_getElem hlt, hc.1, fun e he hb => ?_⟩
      have h2 := hc.2
      rw [Array.getElem?_eq_getElem hlt] at h2
      simp only [Option.map_some, Option.getD_some] at h2
      have := Array.all_eq_true'.1 h2 e he
      simpa [hb] using this
    refine ⟨fun hnil => ?_, fun i hi => ?_⟩
    · cases rem with
      | nil => exact hQ st a w ⟨E, ok, hI⟩ h
      | cons x rem =>
        obtain ⟨p, o⟩ := x
        exfalso
        obtain ⟨hp1, hp2⟩ := (hrem p o).1 (.head _)
        have hlt : p < ops.size := (Array.getElem?_eq_some_iff.1 hp1).1
        have : p ∈ Region.ready .any ops listed := by
          unfold Region.ready
          rw [List.mem_filter]
          refine ⟨by simpa using hlt, ?_⟩
          simp only [Bool.and_eq_true, Bool.not_eq_true', hp1, Option.map_some, Option.getD_some]
          refine ⟨hp2, ?_⟩
          rw [Array.all_eq_true']
          intro e he
          cases hb : Region.binds .any e with
          | false => simp
          | true =>
            have hon := hfree.back p o hp1 e he hb
            simp only [Bool.not_true, Bool.false_or]
            have hlt2 : e.on < listed.size := by omega
            cases hl : listed.getD e.on false with
            | true => rfl
            | false =>
              have hl2 : listed.getD e.on true = false := by
                simp only [Array.getD_eq_getD_getElem?, Array.getElem?_eq_getElem hlt2, Option.getD_some] at hl ⊢
                exact hl
              have hlt3 : e.on < ops.size := by omega
              have hm := (hrem e.on ops[e.on]).2 ⟨Array.getElem?_eq_getElem hlt3, hl2⟩
              rcases List.mem_cons.1 hm with hm | hm
              · injection hm with hm; omega
              · have := (List.pairwise_cons.1 hsort).1 _ hm
                simp only at this
                omega
        rw [hnil] at this
        cases this
    · obtain ⟨o, ho1, ho2, ho3⟩ := hready i hi
      have hm := (hrem i o).2 ⟨ho1, ho2⟩
      obtain ⟨pre, post, rfl⟩ := List.append_of_mem hm
      have hpre : ∀ x ∈ pre, x.1 < i := fun x hx => by
        have := (List.pairwise_append.1 hsort).2.2 x hx (i, o) (.head _)
        exact this
      have hq : ∀ x ∈ pre, x.2 ∈ ops.toList ∧ Pair sg st0 ops.toList x.2 o := fun x hx => by
        obtain ⟨hx1, hx2⟩ := (hrem x.1 x.2).1 (List.mem_append.2 (.inl hx))
        refine ⟨List.mem_of_getElem? (by rw [Array.getElem?_toList]; exact hx1), ?_⟩
        rcases hfree.pair x.1 i x.2 o (hpre x hx) hx1 ho1 with he | h
        · exfalso
          unfold edgeB at he
          rw [List.any_eq_true] at he
          obtain ⟨e, he1, he2⟩ := he
          have he1 := Array.mem_toList_iff.1 he1
          simp only [Bool.and_eq_true, beq_iff_eq] at he2
          have h1 := ho3 e he1 he2.1
          rw [he2.2] at h1
          have hlt : x.1 < listed.size := by have := (Array.getElem?_eq_some_iff.1 hx1).1; omega
          simp only [Array.getD_eq_getD_getElem?, Array.getElem?_eq_getElem hlt, Option.getD_some] at h1 hx2
          rw [h1] at hx2; cases hx2
        · exact h
      have hpull : runD P sg ih ops.toList base ((i, o) :: (pre ++ post)) st K = some r := by
        cases pre with
        | nil => exact h
        | cons x pre' => exact pull' hih hb0 ⟨E, ok, a, w, hI⟩ hst (fun y hy => ⟨by have := hpre y hy; omega, (hq y hy).1, (hq y hy).2⟩) h
      rw [runD] at hpull
      unfold wpOp
      rw [ho1]
      have hmem : o ∈ ops.toList := List.mem_of_getElem? (by rw [Array.getElem?_toList]; exact ho1)
      have hpull' : ∃ Kc : St → Option R, stepK P sg ih ops.toList (base + i) o st Kc = some r ∧ ∀ s, Kc s = some r → ((∀ o ∈ ops.toList, quiet sg o = true ∨ writer sg o = true) → Stable ops.toList st0 s) ∧ runD P sg ih ops.toList base (pre ++ post) s K = some r := by
        classical
        by_cases hall : ∀ o ∈ ops.toList, quiet sg o = true ∨ writer sg o = true
        · obtain ⟨s, k1, k2, k3⟩ := stepK_det (hall o hmem) hpull
          refine ⟨fun s => if Stable ops.toList st0 s then runD P sg ih ops.toList base (pre ++ post) s K else none, ?_, fun s hs => ?_⟩
          · have hstab : Stable ops.toList st0 s := stable_step (hst hall) hmem (k2 St some) k3
            rw [k2, if_pos hstab]
            exact k1
          · dsimp only at hs
            split at hs
            · rename_i hstab; exact ⟨fun _ => hstab, hs⟩
            · cases hs
        · exact ⟨_, hpull, fun s hs => ⟨fun h => absurd h hall, hs⟩⟩
      obtain ⟨Kc, hpull, hKc⟩ := hpull'
      refine stepK_sound hih hI hpull fun st1 a1 w1 hI1 h1 => ?_
      obtain ⟨E1, ok1, i1⟩ := hI1
      obtain ⟨hst1, h1⟩ := hKc st1 h1
      refine ihf _ (pre ++ post) st1 E1 ok1 a1 w1 (by simp [hsz]) (fun p o' => ?_) ?_ (by simp at hlen ⊢; omega) hst1 i1 h1
      · have hne : ∀ x ∈ pre ++ post, x.1 ≠ i := fun x hx e => by
          rcases List.mem_append.1 hx with hx | hx
          · have := hpre x hx; omega
          · have := (List.pairwise_cons.1 (List.pairwise_append.1 hsort).2.1).1 x hx
            simp only at this; omega
        have hset : ∀ p, p ≠ i → (listed.setIfInBounds i true).getD p true = listed.getD p true := fun p hp => by
          simp only [Array.getD_eq_getD_getElem?, Array.getElem?_setIfInBounds, if_neg (Ne.symm hp)]
        have hseti : (listed.setIfInBounds i true).getD i true = true := by
          have hlt : i < listed.size := by have := (Array.getElem?_eq_some_iff.1 ho1).1; omega
          simp [Array.getD_eq_getD_getElem?, Array.getElem?_setIfInBounds, hlt]
        constructor
        · intro hx
          have hne' := hne _ hx
          obtain ⟨k1, k2⟩ := (hrem p o').1 (by
            rcases List.mem_append.1 hx with hx | hx
            · exact List.mem_append.2 (.inl hx)
            · exact List.mem_append.2 (.inr (.tail _ hx)))
          exact ⟨k1, by rw [hset p hne']; exact k2⟩
        · rintro ⟨k1, k2⟩
          have hp : p ≠ i := by rintro rfl; rw [hseti] at k2; cases k2
          rw [hset p hp] at k2
          have := (hrem p o').2 ⟨k1, k2⟩
          rcases List.mem_append.1 this with h | h
          · exact List.mem_append.2 (.inl h)
          · rcases List.mem_cons.1 h with h | h
            · injection h with h; exact absurd h hp
            · exact List.mem_append.2 (.inr h)
      · refine List.Pairwise.sublist ?_ hsort
        exact List.Sublist.append_left (List.sublist_cons_self _ _) _
theorem dstB_false {ops : List Oper} {c : Tmp} (h : dstB ops c = false) : ∀ o ∈ ops, o.dst ≠ some c := by
  intro o ho hd
  have := List.any_eq_false.1 h o ho
  simp [hd] at this
theorem okDB_some {st0 : St} {ops : List Oper} {b : Nat} {d : Tmp} (h : okDB st0 ops b d = true) : okD ops st0 b d := by
  unfold okDB at h
  rw [Bool.and_eq_true] at h
  refine ⟨by simpa using h.1, fun o ho hd => ?_⟩
  have := List.all_eq_true.1 h.2 o ho
  simp only [hd, bne_self_eq_false, Bool.false_or] at this
  split at this
  · rename_i T c1 f hop
    simp only [Bool.and_eq_true, Bool.not_eq_true'] at this
    exact ⟨T, c1, f, hop, dstB_false this.1, this.2⟩
  · cases this
theorem pairB_some {sg : FuncId → Option Sh} {st0 : St} {ops : List Oper} {x y : Oper} (h : pairB sg st0 ops x y = true) : Pair sg st0 ops x y := by
  unfold pairB at h
  simp only [Bool.and_eq_true, Bool.or_eq_true] at h
  refine ⟨apart_of h.2, ?_⟩
  rcases h.1 with (((⟨h1, h2⟩ | ⟨h1, h2⟩) | ⟨h1, h2⟩) | ⟨h1, h2⟩) | ⟨⟨h1, h3⟩, h2⟩
  · exact .inl ⟨h1, h2⟩
  · exact .inr (.inl ⟨h1, h2⟩)
  · exact .inr (.inr (.inl ⟨h1, h2⟩))
  · refine .inr (.inr (.inr (.inl ⟨fun o ho => by have := List.all_eq_true.1 h2 o ho; simpa using this, ?_⟩)))
    unfold boxApB at h1
    rw [Bool.and_eq_true] at h1
    refine ⟨h1.1, ?_⟩
    have h3 := h1.2
    split at h3
    · rename_i T c z hy
      rw [Bool.and_eq_true] at h3
      have h4 := h3.2
      split at h4
      · rename_i b off hb
        refine ⟨T, c, z, b, off, hy, dstB_false (by simpa using h3.1), hb, fun d hd => ?_⟩
        rw [looksL_eq] at h4
        have := List.all_eq_true.1 h4 _ hd
        simp only [Bool.and_eq_true] at this
        exact ⟨by simpa using this.1, okDB_some this.2⟩
      · cases h4
    · cases h3
  · refine .inr (.inr (.inr (.inr ⟨fun o ho => by have := List.all_eq_true.1 h2 o ho; simpa using this, h1, ?_⟩)))
    unfold storerB at h3
    split at h3
    · rename_i T c z hy
      simp only [Bool.and_eq_true, Option.isNone_iff_eq_none] at h3
      have h4 := h3.2
      split at h4
      · rename_i b off hb
        exact ⟨T, c, z, b, off, hy, h3.1.1, dstB_false (by simpa using h3.1.2), hb, by simpa using h4⟩
      · cases h4
    · cases h3
theorem drawRow_some {sg : FuncId → Option Sh} {st0 : St} {ops : List Oper} {y : Oper} : ∀ {l : List Oper} {p : Nat}, drawRow sg st0 ops y p l = true → ∀ (k : Nat) (x : Oper), l[k]? = some x → edgeB y (p + k) = true ∨ Pair sg st0 ops x y
  | [], p, h, k, x, hk => by simp at hk
  | z :: l, p, h, k, x, hk => by
    simp only [drawRow, Bool.and_eq_true, Bool.or_eq_true] at h
    cases k with
    | zero =>
      simp only [List.getElem?_cons_zero, Option.some.injEq] at hk
      subst hk
      rcases h.1 with h | h
      · exact .inl h
      · exact .inr (pairB_some h)
    | succ k =>
      have := drawRow_some h.2 k x hk
      rwa [show p + 1 + k = p + (k + 1) by omega] at this
theorem drawGo_some {sg : FuncId → Option Sh} {st0 : St} {ops : List Oper} : ∀ {l : List Oper} {q : Nat}, drawGo sg st0 ops q l = true → ∀ (k : Nat) (y : Oper), l[k]? = some y → (∀ e ∈ y.after, Region.binds .any e = true → e.on < q + k) ∧ drawRow sg st0 ops y 0 (ops.take (q + k)) = true
  | [], q, h, k, y, hk => by simp at hk
  | z :: l, q, h, k, y, hk => by
    simp only [drawGo, Bool.and_eq_true] at h
    cases k with
    | zero =>
      simp only [List.getElem?_cons_zero, Option.some.injEq] at hk
      subst hk
      refine ⟨fun e he hb => ?_, h.1.2⟩
      have := List.all_eq_true.1 h.1.1 e (Array.mem_toList_iff.2 he)
      simpa [hb] using this
    | succ k =>
      have := drawGo_some h.2 k y hk
      rwa [show q + 1 + k = q + (k + 1) by omega] at this
theorem free_of {sg : FuncId → Option Sh} {st0 : St} {ops : Array Oper} (h : drawGo sg st0 ops.toList 0 ops.toList = true) : Free sg st0 ops := by
  refine ⟨fun q o ho e he hb => ?_, fun p q x y hpq hx hy => ?_⟩
  · have := (drawGo_some h q o (by rw [Array.getElem?_toList]; exact ho)).1 e he hb
    omega
  · have := (drawGo_some h q y (by rw [Array.getElem?_toList]; exact hy)).2
    have := drawRow_some this p x (by rw [List.getElem?_take_of_lt (by omega), Array.getElem?_toList]; exact hx)
    rwa [Nat.zero_add] at this
theorem Inv.drew (hI : Inv X E ok st a w) : Inv X E ok st a { w with drawn := w.drawn + 1 } := hI.grown (w' := { w with drawn := w.drawn + 1 }) ⟨rfl, rfl, rfl, Nat.le_refl _, fun _ _ _ => rfl⟩
theorem number_mem : ∀ (l : List Oper) (k p : Nat) (o : Oper), (p, o) ∈ number k l ↔ k ≤ p ∧ l[p - k]? = some o
  | [], k, p, o => by simp [number]
  | x :: l, k, p, o => by
    rw [number, List.mem_cons, number_mem l (k + 1) p o]
    constructor
    · rintro (h | ⟨h1, h2⟩)
      · injection h with h1 h2
        subst h1; subst h2
        simp
      · exact ⟨by omega, by rw [show p - k = (p - (k + 1)) + 1 by omega]; exact h2⟩
    · rintro ⟨h1, h2⟩
      by_cases e : p = k
      · subst e
        simp at h2
        exact .inl (by rw [h2])
      · refine .inr ⟨by omega, ?_⟩
        rw [show p - k = (p - (k + 1)) + 1 by omega] at h2
        exact h2
theorem number_sorted : ∀ (l : List Oper) (k : Nat), (number k l).Pairwise (fun x y => x.1 < y.1)
  | [], k => List.Pairwise.nil
  | x :: l, k => by
    refine List.pairwise_cons.2 ⟨fun y hy => ?_, number_sorted l (k + 1)⟩
    have := (number_mem l (k + 1) y.1 y.2).1 hy
    simp only
    omega
theorem number_length : ∀ (l : List Oper) (k : Nat), (number k l).length = l.length
  | [], k => rfl
  | x :: l, k => by simp [number, number_length l]
theorem draw_sound {sg : FuncId → Option Sh} {ih : FuncId → List AA → Option Res} (hih : ObsOk P sg ∧ ∀ g as res, ih g as = some res → CallOk P g as res) {ops : Array Oper} {Q : Exit → Act → World → Prop} {K : St → Option R} {id : Nat} (hd : drawOk P sg st ops.toList = true) (hI : Inv X E ok st a w)
    (hQ : ∀ st1 a w, (∃ E ok, Inv X E ok st1 a w) → K st1 = some r → Q .normal a w) (h : regK P sg ih ops.toList st.bx.length ops.toList (st.grow ops.toList.length) K = some r) : (Code.region id ops true).wp P Q a w := by
  unfold drawOk at hd
  rw [Bool.and_eq_true] at hd
  refine wp_region_any hd.1 ?_
  have h' : runD P sg ih ops.toList st.bx.length (number 0 ops.toList) (st.grow ops.toList.length) K = some r := by
    rw [← regK_runD]; exact h
  refine wpAny_runD hih (Nat.le_refl _) (free_of hd.2) hQ ops.size _ (number 0 ops.toList) (st.grow ops.toList.length) E ok a _ (by simp) (fun p o => ?_) (number_sorted _ _) (by rw [number_length]; simp) (fun _ => ⟨fun _ _ => rfl, fun _ _ h => h.1⟩) (hI.grow _).drew h'
  rw [number_mem]
  simp only [Nat.zero_le, true_and, Nat.sub_zero, Array.getElem?_toList]
  constructor
  · intro h
    refine ⟨h, ?_⟩
    have := (Array.getElem?_eq_some_iff.1 h).1
    simp [Array.getD_eq_getD_getElem?, this]
  · exact fun h => h.1
end Go.Eng
end
