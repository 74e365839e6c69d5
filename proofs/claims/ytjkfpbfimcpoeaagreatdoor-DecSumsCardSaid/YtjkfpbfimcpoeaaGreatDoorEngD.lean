/- What the evaluator says of a call is so; what functions of the library come to. -/
import Derived.Test.YtjkfpbfimcpoeaaGreatDoorEngC
import Derived.Scope
import Derived.Test.YtjkfpbfimcpoeaaGreatDoorEngA
section
set_option linter.unusedVariables false
set_option linter.unusedSimpArgs false
namespace Go.Eng
variable {R : Type} {P : Program} {X : Ctx} {E : Env} {ok : Nat → Prop} {st : St} {a : Act} {w : World} {r : R}

def exOf : Ex → Exit
  | .normal => .normal
  | .exit i => .exit i
  | .ret => .ret
  | .goto l => .goto l
theorem wp_loop_n {c : Code} {Q : Exit → Act → World → Prop} (J : Nat → Act → World → Prop) (round : ∀ n a w, J n a w → c.wp P (Exit.then (fun a' w' => ∃ m, m < n ∧ J m a' w') Q) a w) {n : Nat} (h : J n a w) : (Code.loop c).wp P Q a w := by
  intro b k cs
  have key : ∀ n a w, J n a w → ∃ e a' w', Q e a' w' ∧ Arrives P (lone (b.at a (.code c :: .inLoop c :: k)) cs w) b k cs e a' w' := by
    intro n
    induction n using Nat.strongRecOn with
    | _ n ih =>
      intro a w hJ
      obtain ⟨e, a₁, w₁, hq, harr⟩ := round n a w hJ b (.inLoop c :: k) cs
      cases e with
      | normal =>
        obtain ⟨m, hm, hJ1⟩ := hq
        obtain ⟨e₂, a₂, w₂, hq₂, harr₂⟩ := ih m hm a₁ w₁ hJ1
        exact ⟨e₂, a₂, w₂, hq₂, .of_steps (Steps.trans harr (.one step_inLoop)) harr₂⟩
      | exit id => exact ⟨_, a₁, w₁, hq, .pass (x := .inLoop c) rfl (fun _ _ => .inl (by simp)) harr⟩
      | goto l => exact ⟨_, a₁, w₁, hq, .pass (x := .inLoop c) rfl (fun _ _ => .inl (by simp)) harr⟩
      | ret => exact ⟨_, a₁, w₁, hq, .pass (x := .inLoop c) rfl (fun _ _ => .inl (by simp)) harr⟩
      | panic ch => exact ⟨_, a₁, w₁, hq, .pass (x := .inLoop c) rfl (fun _ _ => .inl (by simp)) harr⟩
      | outgrown => exact ⟨_, a₁, w₁, hq, .pass (x := .inLoop c) rfl (fun _ _ => .inl (by simp)) harr⟩
  obtain ⟨e, a', w', hq, harr⟩ := key n a w h
  exact ⟨e, a', w', hq, .of_steps (.one step_loop) harr⟩
/-- So many jumps, then none. -/
def Jn (P : Program) (c : Code) (Q : Exit → Act → World → Prop) : Nat → Exit → Act → World → Prop
  | 0, .goto _, _, _ => False
  | j + 1, .goto l, a, w => ∃ rest, findLabel c l = some rest ∧ rest.wp P (Jn P c Q j) a w
  | _, e, a, w => Q e a w
theorem wp_scope_n {c : Code} {Q : Exit → Act → World → Prop} {j : Nat} (h : c.wp P (Jn P c Q j) a w) : (Code.scope c).wp P Q a w := by
  intro b k cs
  have key : ∀ (j : Nat) (d : Code) (a : Act) (w : World), d.wp P (Jn P c Q j) a w → ∃ e a' w', Q e a' w' ∧ Arrives P (lone (b.at a (.code d :: .inScope c :: k)) cs w) b k cs e a' w' := by
    intro j
    induction j with
    | zero =>
      intro d a w h
      obtain ⟨e, a₁, w₁, hq, harr⟩ := h b (.inScope c :: k) cs
      cases e with
      | normal => exact ⟨.normal, a₁, w₁, hq, Steps.trans harr (.one step_inScope)⟩
      | exit id => exact ⟨.exit id, a₁, w₁, hq, fun k' hk => harr k' (by simp [exitTo, hk])⟩
      | goto l => exact hq.elim
      | ret => exact ⟨_, a₁, w₁, hq, harr⟩
      | panic ch => exact ⟨_, a₁, w₁, hq, harr⟩
      | outgrown => exact ⟨_, a₁, w₁, hq, harr⟩
    | succ j ih =>
      intro d a w h
      obtain ⟨e, a₁, w₁, hq, harr⟩ := h b (.inScope c :: k) cs
      cases e with
      | normal => exact ⟨.normal, a₁, w₁, hq, Steps.trans harr (.one step_inScope)⟩
      | exit id => exact ⟨.exit id, a₁, w₁, hq, fun k' hk => harr k' (by simp [exitTo, hk])⟩
      | goto l =>
        obtain ⟨rest, hf, hr⟩ := hq
        have hg : gotoIn l (.inScope c :: k) = some (.code rest :: .inScope c :: k) := by simp [gotoIn, hf]
        obtain ⟨e₂, a₂, w₂, hq₂, harr₂⟩ := ih rest a₁ w₁ hr
        exact ⟨e₂, a₂, w₂, hq₂, .of_steps (harr _ hg) harr₂⟩
      | ret => exact ⟨_, a₁, w₁, hq, harr⟩
      | panic ch => exact ⟨_, a₁, w₁, hq, harr⟩
      | outgrown => exact ⟨_, a₁, w₁, hq, harr⟩
  obtain ⟨e, a', w', hq, harr⟩ := key j c a w h
  exact ⟨e, a', w', hq, .of_steps (.one step_scope) harr⟩
theorem fromK_some {sg : FuncId → Option Sh} {ih : FuncId → List AA → Option Res} {n : Nat} {H : Nat → List (Nat × Md)} : ∀ {c : Code} {l q : Nat} {st : St} {K : Ex → St → Option R}, fromK P sg ih n H c l q st K = some r → ∃ rest, findLabel c l = some rest := by
  intro c
  induction c with
  | seq c d ihc ihd =>
    intro l q st K h
    simp only [fromK] at h
    simp only [findLabel]
    split at h
    · rename_i r1 h1
      rw [h1]
      exact ⟨_, rfl⟩
    · rename_i h1
      rw [h1]
      exact ihd h
  | label l' =>
    intro l q st K h
    simp only [fromK] at h
    simp only [findLabel]
    split at h
    · rename_i h1; rw [if_pos h1]; exact ⟨_, rfl⟩
    · cases h
  | _ => intro l q st K h; simp [fromK] at h
mutual
theorem codeK_sound {sg : FuncId → Option Sh} {ih : FuncId → List AA → Option Res} (hih : ObsOk P sg ∧ ∀ g as res, ih g as = some res → CallOk P g as res) {n : Nat} {H : Nat → List (Nat × Md)} : ∀ (c : Code) (q : Nat) {st : St} {E : Env} {ok : Nat → Prop} {a : Act} {w : World} {K : Ex → St → Option R} {Q : Exit → Act → World → Prop},
    codeK P sg ih n H c q st K = some r → Inv X E ok st a w → (∀ ex st1 a w, (∃ E ok, Inv X E ok st1 a w) → K ex st1 = some r → Q (exOf ex) a w) → c.wp P Q a w
  | .skip, q, st, E, ok, a, w, K, Q, h, hI, hQ => wp_skip (hQ .normal st a w ⟨E, ok, hI⟩ h)
  | .region id ops draw, q, st, E, ok, a, w, K, Q, h, hI, hQ => by
    simp only [codeK] at h
    cases draw with
    | true =>
      simp only [Bool.true_and] at h
      split at h
      · cases h
      · rename_i hd
        have hd : drawOk P sg st ops.toList = true := by simpa using hd
        exact draw_sound hih hd hI (fun st1 a w hI h => hQ .normal st1 a w hI h) h
    | false =>
      simp only [Bool.false_and, Bool.false_eq_true, if_false] at h
      exact wp_region_list (regK_sound hih (K := fun st1 => K .normal st1) (fun st1 a w hI h => hQ .normal st1 a w hI h) (hI.grow _) h)
  | .seq c d, q, st, E, ok, a, w, K, Q, h, hI, hQ => by
    simp only [codeK] at h
    refine wp_seq (codeK_sound hih c q h hI fun ex st1 a w hI1 h1 => ?_)
    cases ex with
    | normal =>
      obtain ⟨E1, ok1, i1⟩ := hI1
      simp only at h1
      split at h1
      · exact codeK_sound hih d _ h1 i1 hQ
      · rename_i x hs hh
        obtain ⟨ok2, i2⟩ := cutD_sound i1 (lentLe i1) (x :: hs)
        rw [joinC_eq] at h1
        exact codeK_sound hih d _ h1 i2 hQ
    | exit i => exact hQ _ st1 a w hI1 h1
    | ret => exact hQ _ st1 a w hI1 h1
    | goto l => exact hQ _ st1 a w hI1 h1
  | .cond x c d, q, st, E, ok, a, w, K, Q, h, hI, hQ => by
    simp only [codeK] at h
    have hQ' : ∀ ex st1 a w, (∃ E ok, Inv X E ok st1 a w) → padK (st.bx.length + (slotsIn c + slotsIn d)) K ex st1 = some r → Q (exOf ex) a w := fun ex st1 a w hI1 h1 => by
      cases ex with
      | normal =>
        obtain ⟨E1, ok1, i1⟩ := hI1
        exact hQ .normal _ a w ⟨E1, ok1, i1.grow _⟩ h1
      | exit i => exact hQ _ st1 a w hI1 h1
      | ret => exact hQ _ st1 a w hI1 h1
      | goto l => exact hQ _ st1 a w hI1 h1
    split at h
    · rename_i t ht
      have hv := relC_bool (p := .one (.bool t)) hI ht
      split at h
      · rename_i htt
        subst htt
        exact wp_cond_true hv (codeK_sound hih c q h (hI.know hv) hQ')
      · rename_i htt
        have : t = false := by simpa using htt
        subst this
        exact wp_cond_false hv (codeK_sound hih d _ h (hI.know hv) hQ')
    · cases h
  | .block i c, q, st, E, ok, a, w, K, Q, h, hI, hQ => by
    simp only [codeK] at h
    refine wp_block (codeK_sound hih c q h hI fun ex st1 a w hI1 h1 => ?_)
    have hpad : ∃ E ok, Inv X E ok (st1.pad (st.bx.length + slotsIn c)) a w := by
      obtain ⟨E1, ok1, i1⟩ := hI1
      exact ⟨E1, ok1, i1.grow _⟩
    cases ex with
    | normal => exact hQ .normal _ a w hpad h1
    | exit j =>
      simp only at h1
      show Exit.inBlock i Q (.exit j) a w
      unfold Exit.inBlock
      by_cases hj : j = i
      · rw [if_pos hj] at h1
        simp only [hj, if_true]
        exact hQ .normal _ a w hpad h1
      · rw [if_neg hj] at h1
        simp only [hj, if_false]
        exact hQ (.exit j) st1 a w hI1 h1
    | ret => exact hQ .ret st1 a w hI1 h1
    | goto l => exact hQ (.goto l) st1 a w hI1 h1
  | .loop c, q, st, E, ok, a, w, K, Q, h, hI, hQ => by
    simp only [codeK] at h
    split at h
    · rename_i st0 h0
      obtain ⟨E0, i0⟩ := enterSt_sound hI h0
      have hls := lentLe i0
      obtain ⟨ok1, i1⟩ := cutD_sound i0 hls (H q)
      refine wp_loop_n (fun m a w => ∃ st E ok, Inv X E ok st a w ∧ loopK (codeK P sg ih n H c (q + 1)) (cutD (H q) st0.bx.length) m st K = some r) ?_ (n := n) ⟨_, E0, ok1, i1, h⟩
      rintro m a w ⟨st, E, ok, hI, h⟩
      cases m with
      | zero => cases h
      | succ m =>
        simp only [loopK] at h
        refine codeK_sound hih c (q + 1) h hI fun ex st1 a w hI1 h1 => ?_
        cases ex with
        | normal =>
          obtain ⟨E1, ok1, i1⟩ := hI1
          obtain ⟨ok2, i2⟩ := cutD_sound i1 hls (H q)
          exact ⟨m, Nat.lt_succ_self _, _, E1, ok2, i2, h1⟩
        | exit i => exact hQ (.exit i) st1 a w hI1 h1
        | ret => exact hQ .ret st1 a w hI1 h1
        | goto l => exact hQ (.goto l) st1 a w hI1 h1
    · cases h
  | .exit i, q, st, E, ok, a, w, K, Q, h, hI, hQ => wp_exit (hQ (.exit i) st a w ⟨E, ok, hI⟩ h)
  | .ret, q, st, E, ok, a, w, K, Q, h, hI, hQ => wp_ret (hQ .ret st a w ⟨E, ok, hI⟩ h)
  | .label l, q, st, E, ok, a, w, K, Q, h, hI, hQ => wp_label (hQ .normal st a w ⟨E, ok, hI⟩ h)
  | .goto l, q, st, E, ok, a, w, K, Q, h, hI, hQ => wp_goto (hQ (.goto l) st a w ⟨E, ok, hI⟩ h)
  | .scope c, q, st, E, ok, a, w, K, Q, h, hI, hQ => by
    simp only [codeK] at h
    refine wp_scope_n (j := 1) (codeK_sound hih c q h hI fun ex st1 a w hI1 h1 => ?_)
    cases ex with
    | normal => exact hQ .normal st1 a w hI1 h1
    | exit i => exact hQ (.exit i) st1 a w hI1 h1
    | ret => exact hQ .ret st1 a w hI1 h1
    | goto l =>
      simp only at h1
      obtain ⟨rest, hf⟩ := fromK_some h1
      obtain ⟨E1, ok1, i1⟩ := hI1
      refine ⟨rest, hf, fromK_sound hih c l q hf h1 i1 fun ex st2 a w hI2 h2 => ?_⟩
      cases ex with
      | normal => exact hQ .normal st2 a w hI2 h2
      | exit i => exact hQ (.exit i) st2 a w hI2 h2
      | ret => exact hQ .ret st2 a w hI2 h2
      | goto l => cases h2
theorem fromK_sound {sg : FuncId → Option Sh} {ih : FuncId → List AA → Option Res} (hih : ObsOk P sg ∧ ∀ g as res, ih g as = some res → CallOk P g as res) {n : Nat} {H : Nat → List (Nat × Md)} : ∀ (c : Code) (l q : Nat) {rest : Code} {st : St} {E : Env} {ok : Nat → Prop} {a : Act} {w : World} {K : Ex → St → Option R} {Q : Exit → Act → World → Prop},
    findLabel c l = some rest → fromK P sg ih n H c l q st K = some r → Inv X E ok st a w → (∀ ex st1 a w, (∃ E ok, Inv X E ok st1 a w) → K ex st1 = some r → Q (exOf ex) a w) → rest.wp P Q a w
  | .seq c d, l, q, rest, st, E, ok, a, w, K, Q, hf, h, hI, hQ => by
    simp only [findLabel] at hf
    simp only [fromK] at h
    split at hf
    · rename_i r1 h1
      injection hf with hf
      subst hf
      rw [h1] at h
      simp only at h
      refine wp_seq (fromK_sound hih c l q h1 h hI fun ex st1 a w hI1 h1 => ?_)
      cases ex with
      | normal =>
        obtain ⟨E1, ok1, i1⟩ := hI1
        simp only at h1
        split at h1
        · exact codeK_sound hih d _ h1 i1 hQ
        · rename_i x hs hh
          obtain ⟨ok2, i2⟩ := cutD_sound i1 (lentLe i1) (x :: hs)
          rw [joinC_eq] at h1
          exact codeK_sound hih d _ h1 i2 hQ
      | exit i => exact hQ _ st1 a w hI1 h1
      | ret => exact hQ _ st1 a w hI1 h1
      | goto l => exact hQ _ st1 a w hI1 h1
    · rename_i h1
      rw [h1] at h
      simp only at h
      exact fromK_sound hih d l _ hf h hI hQ
  | .label l', l, q, rest, st, E, ok, a, w, K, Q, hf, h, hI, hQ => by
    simp only [findLabel] at hf
    simp only [fromK] at h
    split at hf
    · rename_i h1
      injection hf with hf
      subst hf
      rw [if_pos h1] at h
      exact wp_skip (hQ .normal st a w ⟨E, ok, hI⟩ h)
    · cases hf
  | .skip, l, q, rest, st, E, ok, a, w, K, Q, hf, h, hI, hQ => by simp [findLabel] at hf
  | .region _ _ _, l, q, rest, st, E, ok, a, w, K, Q, hf, h, hI, hQ => by simp [findLabel] at hf
  | .cond _ _ _, l, q, rest, st, E, ok, a, w, K, Q, hf, h, hI, hQ => by simp [findLabel] at hf
  | .block _ _, l, q, rest, st, E, ok, a, w, K, Q, hf, h, hI, hQ => by simp [findLabel] at hf
  | .loop _, l, q, rest, st, E, ok, a, w, K, Q, hf, h, hI, hQ => by simp [findLabel] at hf
  | .exit _, l, q, rest, st, E, ok, a, w, K, Q, hf, h, hI, hQ => by simp [findLabel] at hf
  | .ret, l, q, rest, st, E, ok, a, w, K, Q, hf, h, hI, hQ => by simp [findLabel] at hf
  | .goto _, l, q, rest, st, E, ok, a, w, K, Q, hf, h, hI, hQ => by simp [findLabel] at hf
  | .scope _, l, q, rest, st, E, ok, a, w, K, Q, hf, h, hI, hQ => by simp [findLabel] at hf
end
end Go.Eng
end
section
set_option linter.unusedVariables false
set_option linter.unusedSimpArgs false
namespace Go.Eng
variable {R : Type} {P : Program} {X : Ctx} {E : Env} {ok : Nat → Prop} {st : St} {a : Act} {w : World} {r : R}

def lentL (Ls : List (SL × Place)) : List (Nat × Nat × Nat) := Ls.filterMap fun x => x.2.map fun q => (q.1, q.2.1, x.1.l.length * x.1.c.sz)
theorem mem_lentL {Ls : List (SL × Place)} {g o n : Nat} : (g, o, n) ∈ lentL Ls ↔ ∃ s c e, (s, some (g, o, c, e)) ∈ Ls ∧ n = s.l.length * s.c.sz := by
  unfold lentL
  rw [List.mem_filterMap]
  constructor
  · rintro ⟨⟨s, p⟩, h1, h2⟩
    cases p with
    | none => cases h2
    | some q =>
      obtain ⟨g', o', c, e⟩ := q
      simp only [Option.map_some, Option.some.injEq, Prod.mk.injEq] at h2
      obtain ⟨rfl, rfl, rfl⟩ := h2
      exact ⟨s, c, e, h1, rfl⟩
  · rintro ⟨s, c, e, h1, rfl⟩
    exact ⟨_, h1, rfl⟩
theorem ArgRel.len : ∀ {as : List AA} {vs : List Value} {Ls : List (SL × Place)}, ArgRel w ok as vs Ls → as.length = vs.length ∧ lentN as = Ls.length ∧ initAr as = Ls.map fun x => some ⟨x.1.c, x.1.l, 0, false, true⟩
  | [], [], Ls, h => by
    have h : Ls = [] := h
    subst h
    exact ⟨rfl, rfl, rfl⟩
  | .v x :: as, v :: vs, Ls, h => by
    obtain ⟨h1, h2, h3⟩ := h.2.len
    exact ⟨by simp [h1], h2, h3⟩
  | .lent s :: as, v :: vs, Ls, h => by
    obtain ⟨p, Ls', rfl, _, _, _, h6⟩ := h
    obtain ⟨h1, h2, h3⟩ := h6.len
    exact ⟨by simp [h1], by simp [lentN, h2], by simp [initAr, h3]⟩
  | [], _ :: _, _, h => by cases h
  | .v x :: as, [], _, h => by cases h
  | .lent s :: as, [], _, h => by cases h
theorem ArgRel.row : ∀ {as : List AA} {vs : List Value} {Ls : List (SL × Place)}, ArgRel w ok as vs Ls → ∀ s p, (s, p) ∈ Ls → ArOk w ⟨s.c, s.l, 0, false, true⟩ p ∧ ∀ g o c e, p = some (g, o, c, e) → ¬ ok g
  | [], [], Ls, h, s, p, hm => by
    have h : Ls = [] := h
    subst h
    cases hm
  | .v x :: as, v :: vs, Ls, h, s, p, hm => h.2.row s p hm
  | .lent s0 :: as, v :: vs, Ls, h, s, p, hm => by
    obtain ⟨p0, Ls', rfl, h3, h4, h5, h6⟩ := h
    rcases List.mem_cons.1 hm with hm | hm
    · injection hm with e1 e2
      subst e1; subst e2
      exact ⟨h4, h5⟩
    · exact h6.row s p hm
  | [], _ :: _, _, h, _, _, _ => by cases h
  | .v x :: as, [], _, h, _, _, _ => by cases h
  | .lent s :: as, [], _, h, _, _, _ => by cases h
def initE (Ls : List (SL × Place)) : Env := ⟨fun _ => 0, fun _ => [], fun i => (Ls[i]?).bind (·.2)⟩
theorem initTm_sound {st : St} {Ls0 : List (SL × Place)} (hst : ∀ (i : Nat) (s : SL) (p : Place), Ls0[i]? = some (s, p) → st.ar[i]? = some (some (⟨s.c, s.l, 0, false, true⟩ : AR))) : ∀ {as : List AA} {vs : List Value} {Ls : List (SL × Place)} {j : Nat}, ArgRel w ok as vs Ls → (∀ i : Nat, Ls[i]? = Ls0[j + i]?) →
    ∀ (t : Nat) (p : PV) (v : Value), (initTm j as)[t]? = some p → vs[t]? = some v → RelV w (initE Ls0) ok st p v
  | [], vs, Ls, j, h, hj, t, p, v, hp, hv => by simp [initTm] at hp
  | .v x :: as, v0 :: vs, Ls, j, h, hj, t, p, v, hp, hv => by
    cases t with
    | zero =>
      simp only [initTm, List.getElem?_cons_zero, Option.some.injEq] at hp hv
      subst hp; subst hv
      exact RelA.plain h.1.1 h.1.2 (fun b hb => ⟨hb, rfl⟩)
    | succ t => exact initTm_sound hst h.2 hj t p v hp hv
  | .lent s :: as, v0 :: vs, Ls, j, h, hj, t, p, v, hp, hv => by
    obtain ⟨p0, Ls', rfl, h3, h4, h5, h6⟩ := h
    cases t with
    | zero =>
      simp only [initTm, List.getElem?_cons_zero, Option.some.injEq] at hp hv
      subst hp; subst hv
      have h0 := hj 0
      simp only [List.getElem?_cons_zero, Nat.add_zero] at h0
      refine ⟨_, hst j s p0 h0.symm, Nat.le_refl _, fun _ => ?_⟩
      have hE : (initE Ls0).ar j = p0 := by simp [initE, ← h0]
      rw [hE]
      subst h3
      cases p0 <;> rfl
    | succ t =>
      refine initTm_sound hst h6 (fun i => ?_) t p v hp hv
      have := hj (i + 1)
      rw [List.getElem?_cons_succ] at this
      rw [this]
      congr 1
      omega
  | .v x :: as, [], _, _, h, _, _, _, _, _, _ => by cases h
  | .lent s :: as, [], _, _, h, _, _, _, _, _, _ => by cases h
theorem initTm_length : ∀ (as : List AA) (j : Nat), (initTm j as).length = as.length
  | [], j => rfl
  | .v x :: as, j => by simp [initTm, initTm_length as]
  | .lent s :: as, j => by simp [initTm, initTm_length as]
/-- How a call begins. -/
theorem Inv.init {as : List AA} {vs : List Value} {Ls : List (SL × Place)} (hp : CallPre w ok as vs Ls) {n : Nat} (hn : as.length ≤ n) :
    Inv ⟨w, ok, lentL Ls, Ls⟩ (initE Ls) ok (initSt n as) { tmps := vs.toArray ++ Array.replicate (n - vs.toArray.size) undef, defers := [] } w := by
  obtain ⟨l1, l2, l3⟩ := hp.args.len
  have har : ∀ (i : Nat) (s : SL) (p : Place), Ls[i]? = some (s, p) → (initSt n as).ar[i]? = some (some (⟨s.c, s.l, 0, false, true⟩ : AR)) := fun i s p hi => by
    simp only [initSt, l3]
    rw [List.getElem?_append_left (by rw [List.length_map]; exact get_lt hi), List.getElem?_map, hi]
    rfl
  have oar : ∀ (i : Nat) (A : AR), (initSt n as).ar[i]? = some (some A) → ∃ s p, Ls[i]? = some (s, p) ∧ A = ⟨s.c, s.l, 0, false, true⟩ ∧ (initE Ls).ar i = p := fun i A hA => by
    simp only [initSt, l3] at hA
    have hA := app_none hA
    rw [List.getElem?_map] at hA
    obtain ⟨⟨s, p⟩, h1, h2⟩ := Option.map_eq_some_iff.1 hA
    injection h2 with h2
    exact ⟨s, p, h1, h2.symm, by simp [initE, h1]⟩
  have obx : ∀ (b : Nat) (cs : List PC), ¬ (initSt n as).bx[b]? = some (some cs) := fun b cs hb => by
    simp only [initSt, List.getElem?_replicate] at hb
    split at hb
    · cases hb
    · cases hb
  exact {
    defers := rfl
    len := by simp only [initSt, List.length_append, initTm_length, List.length_replicate, Array.size_append, List.size_toArray, Array.size_replicate]; omega
    tm := fun t p v hp' hv => by
      simp only [initSt] at hp'
      rw [List.getElem?_append, initTm_length] at hp'
      rw [Array.getElem?_append] at hv
      simp only [List.size_toArray] at hv
      split at hp'
      · rename_i hlt
        rw [if_pos (by omega), List.getElem?_toArray] at hv
        exact initTm_sound har hp.args (fun i => by rw [Nat.zero_add]) t p v hp' hv
      · rename_i hlt
        rw [if_neg (by omega), Array.getElem?_replicate] at hv
        rw [List.getElem?_replicate] at hp'
        split at hp'
        · injection hp' with hp'; subst hp'
          split at hv
          · injection hv with hv; subst hv
            exact ⟨[], rfl, rfl, by simp⟩
          · cases hv
        · cases hp'
    bx := fun b cs h => absurd h (obx b cs)
    ar := fun i A h => by
      obtain ⟨s, p, h1, rfl, h3⟩ := oar i A h
      rw [h3]
      exact (hp.args.row s p (List.mem_of_getElem? h1)).1
    arlen := by simp [initSt]; omega
    bxne := fun b b' cs cs' _ h _ _ _ => absurd h (obx b cs)
    bxok := fun b cs _ h _ => absurd h (obx b cs)
    arne := fun i i' A A' g o c e g' o' c' e' h h' hg hg' hgg => by
      obtain ⟨s, p, h1, _, h3⟩ := oar i A h
      obtain ⟨s', p', h1', _, h3'⟩ := oar i' A' h'
      rw [h3] at hg; rw [h3'] at hg'
      subst hg; subst hg'; subst hgg
      exact hp.ne i i' s s' g o c e o' c' e' h1 h1'
    arbx := fun i A b cs g o c e _ h _ => absurd h (obx b cs)
    arok := fun i A g o c e h hg => by
      obtain ⟨s, p, h1, rfl, h3⟩ := oar i A h
      rw [h3] at hg
      exact ⟨fun hk => absurd hk ((hp.args.row s p (List.mem_of_getElem? h1)).2 g o c e hg), fun hz => by cases hz⟩
    arnew := fun i A g o c e h hg => by
      obtain ⟨s, p, h1, rfl, h3⟩ := oar i A h
      rw [h3] at hg
      subst hg
      exact mem_lentL.2 ⟨s, c, e, List.mem_of_getElem? h1, rfl⟩
    okold := fun b hb => .inl hb
    oklt := hp.lt
    size := Nat.le_refl _
    frame := fun b _ _ => rfl
    lent := fun g o n hg => by
      obtain ⟨s, c, e, h1, rfl⟩ := mem_lentL.1 hg
      obtain ⟨m1, m2, cur, m3, m4⟩ := (hp.args.row s _ h1).1
      exact ⟨(Array.getElem?_eq_some_iff.1 m3).1, cur, cur, e, m3, m3, rfl, fun _ _ => rfl⟩
    lentu := fun g o n o' n' hg hg' => by
      obtain ⟨s, c, e, h1, rfl⟩ := mem_lentL.1 hg
      obtain ⟨s', c', e', h1', rfl⟩ := mem_lentL.1 hg'
      obtain ⟨j, hj⟩ := List.getElem?_of_mem h1
      obtain ⟨j', hj'⟩ := List.getElem?_of_mem h1'
      have := hp.ne j j' s s' g o c e o' c' e' hj hj'
      subst this
      rw [hj] at hj'
      simp only [Option.some.injEq, Prod.mk.injEq] at hj'
      obtain ⟨rfl, _, rfl, _⟩ := hj'
      exact ⟨rfl, rfl⟩
    lentat := fun j s p hj => ⟨_, har j s p hj, rfl, rfl, rfl, by simp [initE, show Ls[j]? = some (s, p) from hj]⟩
    os := rfl, tape := rfl, output := rfl }
end Go.Eng
end
section
set_option linter.unusedVariables false
set_option linter.unusedSimpArgs false
namespace Go.Eng
variable {R : Type} {P : Program} {X : Ctx} {E : Env} {ok : Nat → Prop} {st : St} {a : Act} {w : World} {r : R}

theorem run_loadVar {t : TypeId} {p : PC} {g : Bool} {n : Nat} {cs : List PC} {pa : PA} {v : Value} (hI : Inv X E ok st a w) (hg : aggP P t = some g) (hn : sizeP P t = some n) (hc : st.cells? p n = some cs) (hv : asVal g cs = some (.a pa)) (hr : RelC w E ok st p v) :
    ∃ u, (do loadVar t (← asAddr v) : Sem Value).run P w = .ok u w ∧ RelA w E ok st pa u := by
  obtain ⟨hl, b, off, vs, e1, hr, cur, e, fr, hb, hcc⟩ := cells_sound hI hc hr
  have hcell : ∀ j u, vs[j]? = some u → w.cell? ((⟨b, off, none⟩ : Addr).add j) = some u := fun j u hu => by
    rw [addr_add, cell_of hb]; exact hcc j u hu
  have hlv : vs.length = n := by rw [← hr.1, hl]
  cases g with
  | true =>
    simp only [asVal, if_true, Option.some.injEq, PV.a.injEq] at hv
    subst hv
    refine ⟨.agg vs.toArray, ?_, vs, rfl, hr⟩
    rw [e1]
    have := run_loadCells_list (P := P) w ⟨b, off, none⟩ vs hcell
    rw [hlv] at this
    simp [asAddr, loadVar, run_agg hg, run_size hn, this]
  | false =>
    simp only [asVal, Bool.false_eq_true, if_false] at hv
    split at hv
    · rename_i q
      simp only [Option.some.injEq, PV.a.injEq] at hv
      subst hv
      have : vs.length = 1 := by rw [← hr.1]; rfl
      obtain ⟨u, rfl⟩ : ∃ u, vs = [u] := List.length_eq_one_iff.1 this
      refine ⟨u, ?_, hr.2 0 q u rfl rfl⟩
      rw [e1]
      have h0 := hcell 0 u rfl
      rw [addr_add] at h0
      simp only [Nat.add_zero] at h0
      simp [asAddr, loadVar, run_agg hg, h0]
    · cases hv
/-- A result's value. -/
def resOne (tmps : Array Value) : ResultVar → Sem Value
  | .tmp t => pure (tmps.getD t undef)
  | .cell a t => do loadVar t (← asAddr (tmps.getD a undef))
theorem noneFz_some : ∀ {l : List Nat}, noneFz st l = true → ∀ i ∈ l, ∃ A, st.ar[i]? = some (some A) ∧ A.fz = false
  | [], _, i, hi => by cases hi
  | j :: l, h, i, hi => by
    simp only [noneFz, Bool.and_eq_true] at h
    rcases List.mem_cons.1 hi with rfl | hi
    · have h2 := h.1
      rw [List.getD_eq_getElem?_getD] at h2
      cases hq : st.ar[i]? with
      | none => rw [hq] at h2; cases h2
      | some z =>
        rw [hq] at h2
        cases z with
        | none => cases h2
        | some A => exact ⟨A, rfl, by simpa using h2⟩
    · exact noneFz_some h.2 i hi
theorem outOne_sound {rv : ResultVar} {seen seen1 : List Nat} {x : RA} {st1 : St} (hI : Inv X E ok st a w) (h : outOne P st rv seen = some (x, st1, seen1)) :
    ∃ ok1 u, Inv X E ok1 st1 a w ∧ (∀ b, ok b → ok1 b) ∧ Frz st st1 ∧ (resOne a.tmps rv).run P w = .ok u w ∧
      ((∃ pa, x = .v pa ∧ PlainA w ok1 pa u ∧ seen1 = seen) ∨ ∃ i A, x = .fresh A.c A.l ∧ st.ar[i]? = some (some A) ∧ A.lt = false ∧ u = rowV (E.ar i) A.l.length ∧ i ∉ seen ∧ seen1 = i :: seen) := by
  unfold outOne at h
  split at h
  · rename_i t
    split at h
    · rename_i pa hpa
      have hv := hI.get t
      rw [hpa] at hv
      split at h
      · rename_i i ver
        split at h
        · rename_i A hA
          obtain ⟨hA', hver⟩ := arr?_some hA
          have hv : RelC w E ok st (.own i ver) (a.tmps.getD t undef) := hv
          obtain ⟨A', k1, _, k2⟩ := hv
          rw [hA'] at k1; injection k1 with k1; injection k1 with k1; subst k1
          have k3 : a.tmps.getD t undef = rowV (E.ar i) A.l.length := by
            have := k2 hver
            revert this
            cases E.ar i <;> exact id
          split at h
          · rename_i hz
            simp only [Option.some.injEq, Prod.mk.injEq] at h
            obtain ⟨rfl, rfl, rfl⟩ := h
            refine ⟨ok, _, hI, fun _ h => h, Frz.refl, rfl, .inl ⟨_, rfl, ⟨?_, rfl⟩, rfl⟩⟩
            have k4 := hI.ar i A hA'
            rw [k3]
            cases he : E.ar i with
            | none =>
              rw [he] at k4
              have k4 : A.l = [] := k4
              exact ⟨none, 0, by rw [k4]; rfl, by rw [k4]; simp, fun hn => absurd k4 hn⟩
            | some p =>
              obtain ⟨g, o, cap, e⟩ := p
              rw [he] at k4
              obtain ⟨m1, m2, cur, m3, m4, m5, m6⟩ := k4
              exact ⟨_, _, rfl, m1, fun _ => ⟨g, o, rfl, (hI.arok i A g o cap e hA' he).2 hz, cur, e, _, m3, m6⟩⟩
          · split at h
            · cases h
            · rename_i hc
              simp only [Bool.or_eq_true, not_or, Bool.not_eq_true, List.contains_eq_mem, decide_eq_true_eq] at hc
              simp only [Option.some.injEq, Prod.mk.injEq] at h
              obtain ⟨rfl, rfl, rfl⟩ := h
              exact ⟨ok, _, hI, fun _ h => h, Frz.refl, rfl, .inr ⟨i, A, rfl, hA', hc.1, k3, by simpa using hc.2, rfl⟩⟩
        · cases h
      · split at h
        · rename_i q st2 hq
          simp only [Option.some.injEq, Prod.mk.injEq] at h
          obtain ⟨rfl, rfl, rfl⟩ := h
          obtain ⟨ok1, i1, x1, r1, r2, p1⟩ := frozenA_sound hI hq hv
          exact ⟨ok1, _, i1, x1.ok, frozenA_frz hq, rfl, .inl ⟨_, rfl, ⟨RelA.plain r1 p1 (fun b hb => ⟨hb, rfl⟩), p1⟩, rfl⟩⟩
        · cases h
    · cases h
  · rename_i t0 t
    split at h
    · rename_i p g n hp hg hn
      have hv := hI.get t0
      rw [hp] at hv
      split at h
      · rename_i cs hcs
        split at h
        · rename_i hpl
          split at h
          · rename_i pa hpa
            simp only [Option.some.injEq, Prod.mk.injEq] at h
            obtain ⟨rfl, rfl, rfl⟩ := h
            obtain ⟨u, h1, h2⟩ := run_loadVar hI hg hn hcs hpa hv
            refine ⟨ok, u, hI, fun _ h => h, Frz.refl, h1, .inl ⟨pa, rfl, ?_, rfl⟩⟩
            have hpl2 : (paCells pa).all plainC = true := by
              unfold asVal at hpa
              split at hpa
              · simp only [Option.some.injEq, PV.a.injEq] at hpa
                subst hpa
                exact hpl
              · split at hpa
                · simp only [Option.some.injEq, PV.a.injEq] at hpa
                  subst hpa
                  exact hpl
                · cases hpa
            exact ⟨RelA.plain h2 hpl2 (fun b hb => ⟨hb, rfl⟩), hpl2⟩
          · cases h
        · cases h
      · cases h
    · cases h
theorem outAll_sound : ∀ {rs : List ResultVar} {st st2 : St} {ok : Nat → Prop} {seen seen2 : List Nat} {xs : List RA} {sb : List Nat}, Inv X E ok st a w → outAll P rs st seen = some (xs, st2, seen2) →
    (∀ b ∈ sb, ∃ i ∈ seen, ∃ A o c e, st.ar[i]? = some (some A) ∧ E.ar i = some (b, o, c, e)) →
    ∃ ok2 vs, Inv X E ok2 st2 a w ∧ (∀ b, ok b → ok2 b) ∧ Frz st st2 ∧ (∀ i ∈ seen, i ∈ seen2) ∧ (rs.mapM (resOne a.tmps)).run P w = .ok vs w ∧
      ((∀ i ∈ seen2, ∃ A, st2.ar[i]? = some (some A) ∧ A.fz = false) → RsRel w ok2 X.w0.heap.size sb xs vs)
  | [], st, st2, ok, seen, seen2, xs, sb, hI, h, hs => by
    simp only [outAll, Option.some.injEq, Prod.mk.injEq] at h
    obtain ⟨rfl, rfl, rfl⟩ := h
    exact ⟨ok, [], hI, fun _ h => h, Frz.refl, fun _ h => h, rfl, fun _ => trivial⟩
  | rv :: rs, st, st2, ok, seen, seen2, xs, sb, hI, h, hs => by
    unfold outAll at h
    split at h
    · rename_i x st1 seen1 h1
      split at h
      · rename_i xs' st3 seen3 h2
        simp only [Option.some.injEq, Prod.mk.injEq] at h
        obtain ⟨rfl, rfl, rfl⟩ := h
        obtain ⟨ok1, u, i1, m1, f1, r1, hx⟩ := outOne_sound hI h1
        rcases hx with ⟨pa, rfl, hpa, rfl⟩ | ⟨i, A, rfl, hA, hlt, hu, hni, rfl⟩
        · obtain ⟨ok2, vs, i2, m2, f2, s2, r2, g2⟩ := outAll_sound (sb := sb) i1 h2 (fun b hb => by
            obtain ⟨i, k1, A, o, c, e, k2, k3⟩ := hs b hb
            rcases f1.ar i with q | ⟨B, q1, q2⟩
            · exact ⟨i, k1, A, o, c, e, q.trans k2, k3⟩
            · exact ⟨i, k1, _, o, c, e, q2, k3⟩)
          refine ⟨ok2, u :: vs, i2, fun b hb => m2 b (m1 b hb), f1.trans f2, s2, ?_, fun hz => ⟨hpa.mono m2, g2 hz⟩⟩
          simp only [List.mapM_cons, Sem.run_bind, r1, Result.andThen_ok, r2, Sem.run_pure]
        · obtain ⟨ok2, vs, i2, m2, f2, s2, r2, g2⟩ := outAll_sound (sb := ((E.ar i).map (·.1)).toList ++ sb) i1 h2 (fun b hb => by
            have up : ∀ {j B}, st.ar[j]? = some (some B) → ∃ B', st1.ar[j]? = some (some B') := fun {j B} hB => by
              rcases f1.ar j with q | ⟨C, q1, q2⟩
              · exact ⟨B, q.trans hB⟩
              · exact ⟨_, q2⟩
            rcases List.mem_append.1 hb with hb | hb
            · cases he : E.ar i with
              | none => rw [he] at hb; simp at hb
              | some q =>
                obtain ⟨g, o, c, e⟩ := q
                rw [he] at hb
                simp only [Option.map_some, Option.toList_some, List.mem_singleton] at hb
                subst hb
                obtain ⟨B, hB⟩ := up hA
                exact ⟨i, .head _, B, o, c, e, hB, he⟩
            · obtain ⟨j, k1, B, o, c, e, k2, k3⟩ := hs b hb
              obtain ⟨B', hB⟩ := up k2
              exact ⟨j, .tail _ k1, B', o, c, e, hB, k3⟩)
          refine ⟨ok2, u :: vs, i2, fun b hb => m2 b (m1 b hb), f1.trans f2, fun j hj => s2 j (.tail _ hj), ?_, fun hz => ⟨E.ar i, hu, ?_, fun g o c e hg => ⟨?_, fun hk => ?_, fun hm => ?_⟩, g2 hz⟩⟩
          · simp only [List.mapM_cons, Sem.run_bind, r1, Result.andThen_ok, r2, Sem.run_pure]
          · have := hI.ar i A hA
            cases he : E.ar i with
            | none => rw [he] at this; exact this
            | some q =>
              obtain ⟨g, o, c, e⟩ := q
              rw [he] at this
              obtain ⟨n1, n2, cur, n3, n4, n5, n6⟩ := this
              exact ⟨n1, n2, cur, n3, n4, fun _ => n5 hlt, n6⟩
          · have := hI.arnew i A g o c e hA hg
            rw [hlt] at this
            simpa using this
          · obtain ⟨B, b1, b2⟩ := hz i (s2 i (.head _))
            have := (i2.arok i B g o c e b1 hg).1 hk
            rw [b2] at this; cases this
          · obtain ⟨j, k1, B, o', c', e', k2, k3⟩ := hs g hm
            have := hI.arne i j A B g o c e g o' c' e' hA k2 hg k3 rfl
            subst this
            exact hni k1
      · cases h
    · cases h
theorem lentOut_some : ∀ {l : List (Option AR)} {m : Nat} {mu : List SL}, lentOut l m = some mu → mu.length = m ∧ ∀ (j : Nat) (s : SL), mu[j]? = some s → ∃ A : AR, l[j]? = some (some A) ∧ A.fz = false ∧ s = ⟨A.c, A.l⟩
  | l, 0, mu, h => by
    have e : mu = [] := by
      cases l with
      | nil => simpa [lentOut] using h.symm
      | cons x l => cases x <;> simpa [lentOut] using h.symm
    subst e
    exact ⟨rfl, fun j s hj => by simp at hj⟩
  | [], m + 1, mu, h => by simp [lentOut] at h
  | none :: l, m + 1, mu, h => by simp [lentOut] at h
  | some A :: l, m + 1, mu, h => by
    simp only [lentOut] at h
    split at h
    · cases h
    · rename_i hz
      split at h
      · rename_i mu' hm
        injection h with h; subst h
        obtain ⟨h1, h2⟩ := lentOut_some hm
        refine ⟨by simp [h1], fun j s hj => ?_⟩
        cases j with
        | zero =>
          simp only [List.getElem?_cons_zero, Option.some.injEq] at hj
          exact ⟨A, rfl, by simpa using hz, hj.symm⟩
        | succ j => exact h2 j s hj
      · cases h
theorem results_run {fn : Func} {tmps : Array Value} {vs : List Value} (h : (fn.results.toList.mapM (resOne tmps)).run P w = .ok vs w) : (results fn tmps).run P w = .ok (oneOf vs) w := by
  have e : results fn tmps = (do let vs ← fn.results.mapM (resOne tmps); pure (if h : vs.size = 1 then vs[0] else .tuple vs)) := by
    unfold results
    congr 1
  rw [e, Array.mapM_eq_mapM_toList]
  simp [h]
  match vs with
  | [] => rfl
  | [v] => rfl
  | v :: v' :: vs => simp [oneOf]
end Go.Eng
end
section
set_option linter.unusedVariables false
set_option linter.unusedSimpArgs false
namespace Go.Eng
variable {R : Type} {P : Program} {X : Ctx} {E : Env} {ok : Nat → Prop} {st : St} {a : Act} {w : World} {r : R}

theorem run_enter {f : FuncId} {fn : Func} {c : Code} (hf : P.funcs[f]? = some fn) (hname : (fn.name == "runtime.NumGoroutine") = false) (hb : fn.body = some c) (args : Array Value) :
    (callFunc f args).run P w = .ok (.enter f args) w := by
  have h2 : ¬ fn.name = "runtime.NumGoroutine" := by simpa using hname
  simp [callFunc, hf, h2, hb]
theorem funK_sound {sg : FuncId → Option Sh} {H : FuncId → Nat → List (Nat × Md)} {ih : FuncId → List AA → Option Res} (hnm : P.funcs.toList.all (fun fn => !(fn.name == "runtime.NumGoroutine")) = true)
    (hih : ObsOk P sg ∧ ∀ g as res, ih g as = some res → CallOk P g as res) {n : Nat} {f : FuncId} {as : List AA} {res : Res} (h : funK P sg H ih n f as = some res) : CallOk P f as res := by
  intro w ok vs Ls hpre
  unfold funK at h
  split at h
  · rename_i fn hf
    split at h
    · rename_i c hb
      split at h
      · rename_i hlen
        obtain ⟨l1, l2, l3⟩ := hpre.args.len
        have hname : (fn.name == "runtime.NumGoroutine") = false := by
          have := List.all_eq_true.1 hnm fn (Array.mem_toList_iff.2 (Array.mem_of_getElem? hf))
          simpa using this
        unfold Does
        rw [run_enter hf hname hb]
        refine calls_of_wp hf hb (codeK_sound hih c 0 h (Inv.init hpre hlen.2) fun ex st1 a w1 hI hd => ?_)
        obtain ⟨E, ok1, hI⟩ := hI
        have done : ∀ {o : Option Res}, o = (match outAll P fn.results.toList st1 [] with
            | some (rs, st1, seen) =>
              if noneFz st1 seen then
                match lentOut st1.ar (lentN as) with
                | some mu => some ⟨rs, mu⟩
                | none => none
              else none
            | none => none) → o = some res → a.defers = [] ∧ ∃ v, (results fn a.tmps).run P w1 = .ok v w1 ∧ ∃ ok', CallPost w ok Ls res ok' v w1 := by
          intro o ho hd
          rw [ho] at hd
          split at hd
          · rename_i rs st2 seen hout
            split at hd
            · rename_i hfz
              split at hd
              · rename_i mu hmu
                injection hd with hd
                subst hd
                obtain ⟨ok2, us, i2, m2, f2, _, r2, g2⟩ := outAll_sound (sb := []) hI hout (by simp)
                obtain ⟨q1, q2⟩ := lentOut_some hmu
                refine ⟨hI.defers, oneOf us, results_run r2, ok2, ?_⟩
                exact {
                  size := i2.size
                  os := i2.os, tape := i2.tape, output := i2.output
                  frame := fun b hb hno => i2.frame b hb (fun ⟨o, n, hm⟩ => by
                    obtain ⟨s, c, e, hm, _⟩ := mem_lentL.1 hm
                    exact hno s o c e hm)
                  okold := i2.okold
                  oklt := i2.oklt
                  mu := by
                    refine ⟨by rw [q1, l2], fun j s p s' hj hs => ?_⟩
                    obtain ⟨A, k1, k2, rfl⟩ := q2 j s' hs
                    obtain ⟨B, b1, b2, b3, b4, b5⟩ := i2.lentat j s p hj
                    rw [k1] at b1; injection b1 with b1; injection b1 with b1; subst b1
                    refine ⟨b3, b4, fun g o cp e hp => ?_⟩
                    have hmem : (g, o, s.l.length * s.c.sz) ∈ lentL Ls := mem_lentL.2 ⟨s, cp, e, by rw [← hp]; exact List.mem_of_getElem? hj, rfl⟩
                    obtain ⟨n1, cur0, cur, e1, n2, n3, n4, n5⟩ := i2.lent g o _ hmem
                    have hA := i2.ar j A k1
                    rw [b5, hp] at hA
                    obtain ⟨p1, p2, cur', p3, p4, p5, p6⟩ := hA
                    rw [n3] at p3; injection p3 with p3; injection p3 with p3 p3'; subst p3; subst p3'
                    exact ⟨cur0, cur, n2, n3, n4, n5, p6⟩
                  rs := ⟨us, rfl, g2 (noneFz_some hfz)⟩ }
              · cases hd
            · cases hd
          · cases hd
        cases ex with
        | normal => exact done rfl hd
        | ret => exact done rfl hd
        | exit i => cases hd
        | goto l => cases hd
      · cases h
    · cases h
  · cases h
/-- WHAT THE EVALUATOR SAYS OF A CALL IS SO. -/
theorem aCall_sound {sg : FuncId → Option Sh} {H : FuncId → Nat → List (Nat × Md)} {X : FuncId → Option (List AA → Option Res)} (hnm : P.funcs.toList.all (fun fn => !(fn.name == "runtime.NumGoroutine")) = true)
    (hob : ObsOk P sg) (hX : ∀ f h, X f = some h → ∀ as res, h as = some res → CallOk P f as res) : ∀ (k : Nat) (f : FuncId) (as : List AA) (res : Res), aCall P sg H X k f as = some res → CallOk P f as res
  | 0, f, as, res, h => by cases h
  | k + 1, f, as, res, h => by
    unfold aCall at h
    split at h
    · rename_i g hg
      exact hX f g hg as res h
    · exact funK_sound hnm ⟨hob, aCall_sound hnm hob hX k⟩ h
#print axioms aCall_sound
end Go.Eng
end
section
set_option linter.unusedSimpArgs false
set_option linter.unusedVariables false
namespace Go.Eng
/-! ## What a Builder's functions come to -/
def bldWrite (T0 e0 : TypeId) : Option Ob → List PA → Option ObR
  | some (.bld T e s), [.c (.str x)] =>
    match Nat.beq T T0 && Nat.beq e e0 with
    | true => some ⟨decide (s.size + x.size ≤ 140737488355328), some (.bld T e (s ++ x)), [.inl (.c (.int .i64 x.size)), .inl (.c .nili)]⟩
    | false => none
  | _, _ => none
def bldString (T0 e0 : TypeId) : Option Ob → List PA → Option ObR
  | some (.bld T e s), [] =>
    match Nat.beq T T0 && Nat.beq e e0 with
    | true => some ⟨true, some (.bld T e s), [.inl (.c (.str s))]⟩
    | false => none
  | _, _ => none
/-- `ite`, without a name that the kernel could mistake for another test's. -/
abbrev iteA {α : Type} (c : Prop) [d : Decidable c] (a b : α) : α := Decidable.casesOn (motive := fun _ => α) d (fun _ => b) (fun _ => a)
theorem iteA_eq {α : Type} (c : Prop) [d : Decidable c] (a b : α) : iteA c a b = if c then a else b := by cases d <;> rfl
end Go.Eng
end
section
set_option linter.unusedSimpArgs false
set_option linter.unusedVariables false
namespace Go.Eng
/-! ## What functions of the library come to -/
def u64ok (x : Int) : Bool := decide (0 ≤ x) && decide (x < 18446744073709551616)
def bitLenN : Nat → Nat → Nat
  | 0, _ => 0
  | k + 1, n => if n = 0 then 0 else bitLenN k (n / 2) + 1
/-- bits.Len64 -/
def bitLenI (x : Int) : Int := bitLenN 64 x.toNat
def xClone : List AA → Option Res
  | [.v (.c (.sl (.int .u64) l))] =>
    match Nat.ble l.length 17592186044416 with
    | true => some ⟨[.v (.c (.sl (.int .u64) l))], []⟩
    | false => none
  | _ => none
def xLen64 : List AA → Option Res
  | [.v (.c (.int .u64 x))] => match u64ok x with | true => some ⟨[.v (.c (.int .i64 (bitLenI x)))], []⟩ | false => none
  | _ => none
def xMul64 : List AA → Option Res
  | [.v (.c (.int .u64 x)), .v (.c (.int .u64 y))] =>
    match u64ok x && u64ok y with
    | true => some ⟨[.v (.c (.int .u64 (x * y / 18446744073709551616))), .v (.c (.int .u64 (x * y % 18446744073709551616)))], []⟩
    | false => none
  | _ => none
def xAdd64 : List AA → Option Res
  | [.v (.c (.int .u64 x)), .v (.c (.int .u64 y)), .v (.c (.int .u64 c))] =>
    match u64ok x && u64ok y && (decide (c = 0) || decide (c = 1)) with
    | true => some ⟨[.v (.c (.int .u64 ((x + y + c) % 18446744073709551616))), .v (.c (.int .u64 ((x + y + c) / 18446744073709551616)))], []⟩
    | false => none
  | _ => none
def xSub64 : List AA → Option Res
  | [.v (.c (.int .u64 x)), .v (.c (.int .u64 y)), .v (.c (.int .u64 c))] =>
    match u64ok x && u64ok y && (decide (c = 0) || decide (c = 1)) with
    | true => some ⟨[.v (.c (.int .u64 ((x - y - c) % 18446744073709551616))), .v (.c (.int .u64 (-((x - y - c) / 18446744073709551616))))], []⟩
    | false => none
  | _ => none
def repS : Nat → ByteArray → ByteArray
  | 0, _ => ⟨#[]⟩
  | n + 1, s => s ++ repS n s
def xRepeat : List AA → Option Res
  | [.v (.c (.str s)), .v (.c (.int .i64 n))] =>
    match decide (0 ≤ n) && decide (n ≤ 1048576) && decide (s.size ≤ 1048576) with
    | true => some ⟨[.v (.c (.str (repS n.toNat s)))], []⟩
    | false => none
  | _ => none
/-- The text without the bytes of a cutset of ASCII bytes at its ends. -/
def trimL (cut : List UInt8) : List UInt8 → List UInt8
  | [] => []
  | b :: r => if cut.contains b then trimL cut r else b :: r
def trimS (s cut : ByteArray) : ByteArray := ⟨(trimL cut.data.toList (trimL cut.data.toList s.data.toList.reverse).reverse).toArray⟩
def xTrim : List AA → Option Res
  | [.v (.c (.str s)), .v (.c (.str cut))] =>
    match cut.data.toList.all (fun b => decide (b.toNat < 128)) && (decide (cut.size < 4096) && decide (s.size ≤ 8192)) with
    | true => some ⟨[.v (.c (.str (trimS s cut)))], []⟩
    | false => none
  | _ => none
/-- Clone's result is the caller's own. -/
def xCloneF : List AA → Option Res
  | [.v (.c (.sl (.int .u64) l))] =>
    match Nat.ble l.length 17592186044416 with
    | true => some ⟨[.fresh (.int .u64) l], []⟩
    | false => none
  | _ => none
def trimLS (s cut : ByteArray) : ByteArray := ⟨(trimL cut.data.toList s.data.toList).toArray⟩
def xTrimLeft : List AA → Option Res
  | [.v (.c (.str s)), .v (.c (.str cut))] =>
    match cut.data.toList.all (fun b => decide (b.toNat < 128)) && (decide (cut.size < 4096) && decide (s.size ≤ 8192)) with
    | true => some ⟨[.v (.c (.str (trimLS s cut)))], []⟩
    | false => none
  | _ => none
/-- Where a byte stands first. -/
def idxB (c : UInt8) : List UInt8 → Nat → Int
  | [], _ => -1
  | b :: r, i => if b = c then (i : Int) else idxB c r (i + 1)
def xIndexByte : List AA → Option Res
  | [.v (.c (.str s)), .v (.c (.int .u8 c))] =>
    match decide (0 ≤ c) && decide (c < 256) with
    | true => some ⟨[.v (.c (.int .i64 (idxB (UInt8.ofNat c.toNat) s.data.toList 0)))], []⟩
    | false => none
  | _ => none
end Go.Eng
end
section
set_option linter.unusedSimpArgs false
set_option linter.unusedVariables false
namespace Go.Eng
open Go
set_option linter.unusedVariables false
variable {P : Program}
theorem callOk_calls {f : FuncId} {fn : Func} {c : Code} {as : List AA} {res : Res} (hf : P.funcs[f]? = some fn) (hname : (fn.name == "runtime.NumGoroutine") = false) (hb : fn.body = some c)
    (H : ∀ w ok vs Ls, CallPre w ok as vs Ls → Calls P f vs.toArray w fun e w' => ∃ v, e = .returned v ∧ ∃ ok', CallPost w ok Ls res ok' v w') : CallOk P f as res := by
  intro w ok vs Ls hpre
  unfold Does
  rw [run_enter hf hname hb]
  refine (H w ok vs Ls hpre).mono ?_
  rintro e w' ⟨v, rfl, h⟩
  exact h
theorem callPost_same {w : World} {ok : Nat → Prop} {rs : List RA} {v : Value} {vs : List Value} (hlt : ∀ b, ok b → b < w.heap.size) (hv : v = oneOf vs) (hr : RsRel w ok w.heap.size [] rs vs) : CallPost w ok [] ⟨rs, []⟩ ok v w where
  size := Nat.le_refl _
  os := rfl
  tape := rfl
  output := rfl
  frame := fun _ _ _ => rfl
  okold := fun _ h => .inl h
  oklt := hlt
  mu := ⟨rfl, fun j s p s' h => by simp at h⟩
  rs := ⟨vs, hv, hr⟩
end Go.Eng
end
